/- Lemmas for the statement of the last text of this claim. -/
import Derived.Test.YtfbikpbejkgegaaGreatChecked
import Derived.Test.YtfbikpbejkgegaaGreatPxM
import Derived.WalkKit
import Derived.ProofKit
import Derived.Deep.RegionLaw
import Derived.Deep.LoopGhost
import Derived.Lib.Walk
import Derived.Maps.Own
import Derived.Shelf.RegionOpenPlain
import Derived.Lib.LazyBuf
import Derived.Test.YtfbikpbejkgegaaGreatPxK
import Derived.Test.YtfbikpbejkgegaaGreatV3B
set_option linter.unusedSimpArgs false
set_option linter.unusedVariables false
namespace Go.Proofs.YtfbikpbejkgegaaGreat
open Go Go.Abs
noncomputable section
def i34 : Abs.Sg := ⟨[0, 1], (.dat Z7 Qs3), .nil⟩

def o34 : Abs.Sg := ⟨[4, 5], (.st Qx9 Qs3), (.box 4 (.agg (.st (.own Z3 (1, 0)) (.dat (.row Z4) (.st (.own .bool (2, 0)) (.st (.own Z11 (3, 0)) .nil)))) .nil) (.arr Z3 false (.arr .bool false (.arr Z11 false .nil))))⟩

def m34 (v : Y20) : Option ((Int × Unit) × ((((List Y9) × Unit) × Unit) × (List Y8) × (List Bool) × (List (Int × Int × Unit)) × Unit)) :=
(m78 ((v.1.1, (v.1.2.1, ())), ())).bind fun u43 =>
bif ((u43.1.1 : Int) != 0) then (bif ((u43.1.1 : Int) != 0) then (some ((u43.1.1, ()), ((([], ()), ()), ([], ([], ([], ()))))))
else ((m51 ((v.1.1, ()), ())).bind fun u44 =>
bif (decide ((0 : Int) ≤ v.1.2.1 ∧ (v.1.2.1 : Int) < u44.2.2.2.1.length)) then
(u44.2.2.2.1[v.1.2.1.toNat]?).bind fun e45 =>
Abs.rowAt v.1.1.2.2.1 e45.2.2.1 fun e46 _ =>
bif e46 then (some ((0, ()), ((([], ()), ()), ([], ([], ([], ()))))))
else ((m60 ((v.1.1.2.2.2.1, (e45.2.1, (e45.2.2.1, ()))), ())).bind fun u47 =>
bif u47.1.1 then (some ((0, ()), ((([], ()), ()), ([], ([], ([], ()))))))
else (none))
else none))
else ((m51 ((v.1.1, ()), ())).bind fun u48 =>
bif (decide ((0 : Int) ≤ v.1.2.1)) then
bif (decide ((0 : Int) ≤ v.1.2.1)) then
bif (decide (0 ≤ v.1.2.1.toNat ∧ v.1.2.1.toNat = v.1.2.1.toNat ∧ v.1.2.1.toNat ≤ u48.2.2.2.1.length)) then
bif (decide ((0 : Int) ≤ (w64 (v.1.2.1 + 1)))) then
bif (decide ((w64 (v.1.2.1 + 1)).toNat ≤ u48.2.2.2.1.length ∧ u48.2.2.2.1.length ≤ u48.2.2.2.1.length)) then
bif (decide ((w64 (v.1.2.1 + 1)).toNat + (u48.2.2.2.1.length - (w64 (v.1.2.1 + 1)).toNat) ≤ u48.2.2.2.1.length)) then
bif (u48.2.2.2.1.take v.1.2.1.toNat).isEmpty then (bif (decide ((u48.2.2.2.1.take v.1.2.1.toNat).length + ((u48.2.2.2.1.drop (w64 (v.1.2.1 + 1)).toNat).take (u48.2.2.2.1.length - (w64 (v.1.2.1 + 1)).toNat)).length ≤ 4294967296)) then
let x49 := ((u48.2.2.2.1.take v.1.2.1.toNat) ++ ((u48.2.2.2.1.drop (w64 (v.1.2.1 + 1)).toNat).take (u48.2.2.2.1.length - (w64 (v.1.2.1 + 1)).toNat)))
(m51 ((v.1.1, ()), ())).bind fun u50 =>
bif (decide ((0 : Int) ≤ v.1.2.1 ∧ (v.1.2.1 : Int) < u50.2.2.2.1.length)) then
(u50.2.2.2.1[v.1.2.1.toNat]?).bind fun e51 =>
Abs.rowAt v.1.1.2.2.1 e51.2.2.1 fun e52 _ =>
bif e52 then (some ((0, ()), (((x49, ()), ()), (u48.2.2.1, (u48.2.2.2.2.1, (u48.2.2.2.2.2.1, ()))))))
else ((m60 ((v.1.1.2.2.2.1, (e51.2.1, (e51.2.2.1, ()))), ())).bind fun u53 =>
bif u53.1.1 then (some ((0, ()), (((x49, ()), ()), (u48.2.2.1, (u48.2.2.2.2.1, (u48.2.2.2.2.2.1, ()))))))
else (bif (decide ((0 : Int) ≤ e51.2.2.1 ∧ (e51.2.2.1 : Int) < u48.2.2.1.length)) then
(u48.2.2.1[e51.2.2.1.toNat]?).bind fun e54 =>
bif ((e51.1 : Int) == 1) then ((m74 (((v.1.1.1.length : Int), (e54, (e51, ()))), ())).bind fun u55 =>
bif (decide ((0 : Int) ≤ e51.2.2.1 ∧ (e51.2.2.1 : Int) < u48.2.2.1.length)) then
bif (decide (e51.2.2.1.toNat < u48.2.2.1.length)) then
bif u55.1.1 then (bif (decide (x49.length + ([(u55.2.2.1.1.1, (u55.2.2.1.1.2.1, (u55.2.2.1.1.2.2.1, (u55.2.2.1.1.2.2.2.1, (u55.2.2.1.1.2.2.2.2.1, (u55.2.2.1.1.2.2.2.2.2.1, (u55.2.2.1.1.2.2.2.2.2.2.1, ([], (u55.2.2.1.1.2.2.2.2.2.2.2.1, ())))))))))] : List Y9).length ≤ 4294967296)) then
let x56 := (x49 ++ ([(u55.2.2.1.1.1, (u55.2.2.1.1.2.1, (u55.2.2.1.1.2.2.1, (u55.2.2.1.1.2.2.2.1, (u55.2.2.1.1.2.2.2.2.1, (u55.2.2.1.1.2.2.2.2.2.1, (u55.2.2.1.1.2.2.2.2.2.2.1, ([], (u55.2.2.1.1.2.2.2.2.2.2.2.1, ())))))))))] : List Y9))
some ((0, ()), (((x56, ()), ()), ((u48.2.2.1.set e51.2.2.1.toNat u55.2.1.1), (u48.2.2.2.2.1, (u48.2.2.2.2.2.1, ())))))
else none)
else (some ((0, ()), (((x49, ()), ()), ((u48.2.2.1.set e51.2.2.1.toNat u55.2.1.1), (u48.2.2.2.2.1, (u48.2.2.2.2.2.1, ()))))))
else none
else none)
else (bif ((e51.1 : Int) == 2) then ((m75 (((v.1.1.1.length : Int), (e54, (e51, ()))), ())).bind fun u57 =>
bif (decide ((0 : Int) ≤ e51.2.2.1 ∧ (e51.2.2.1 : Int) < u48.2.2.1.length)) then
bif (decide (e51.2.2.1.toNat < u48.2.2.1.length)) then
some ((0, ()), (((x49, ()), ()), ((u48.2.2.1.set e51.2.2.1.toNat u57.2.1.1), (u48.2.2.2.2.1, (u48.2.2.2.2.2.1, ())))))
else none
else none)
else (bif ((e51.1 : Int) == 3) then ((m76 (((v.1.1.1.length : Int), (e54, (e51, ()))), ())).bind fun u58 =>
bif (decide ((0 : Int) ≤ e51.2.2.1 ∧ (e51.2.2.1 : Int) < u48.2.2.1.length)) then
bif (decide (e51.2.2.1.toNat < u48.2.2.1.length)) then
bif u58.1.1 then (bif (decide (x49.length + ([(u58.2.2.1.1.1, (u58.2.2.1.1.2.1, (u58.2.2.1.1.2.2.1, (u58.2.2.1.1.2.2.2.1, (u58.2.2.1.1.2.2.2.2.1, (u58.2.2.1.1.2.2.2.2.2.1, (u58.2.2.1.1.2.2.2.2.2.2.1, ([], (u58.2.2.1.1.2.2.2.2.2.2.2.1, ())))))))))] : List Y9).length ≤ 4294967296)) then
let x59 := (x49 ++ ([(u58.2.2.1.1.1, (u58.2.2.1.1.2.1, (u58.2.2.1.1.2.2.1, (u58.2.2.1.1.2.2.2.1, (u58.2.2.1.1.2.2.2.2.1, (u58.2.2.1.1.2.2.2.2.2.1, (u58.2.2.1.1.2.2.2.2.2.2.1, ([], (u58.2.2.1.1.2.2.2.2.2.2.2.1, ())))))))))] : List Y9))
some ((0, ()), (((x59, ()), ()), ((u48.2.2.1.set e51.2.2.1.toNat u58.2.1.1), (u48.2.2.2.2.1, (u48.2.2.2.2.2.1, ())))))
else none)
else (some ((0, ()), (((x49, ()), ()), ((u48.2.2.1.set e51.2.2.1.toNat u58.2.1.1), (u48.2.2.2.2.1, (u48.2.2.2.2.2.1, ()))))))
else none
else none)
else (bif ((e51.1 : Int) == 4) then ((m77 (((v.1.1.1.length : Int), (e54, (e51, ()))), ())).bind fun u60 =>
bif (decide ((0 : Int) ≤ e51.2.2.1 ∧ (e51.2.2.1 : Int) < u48.2.2.1.length)) then
bif (decide (e51.2.2.1.toNat < u48.2.2.1.length)) then
some ((0, ()), (((x49, ()), ()), ((u48.2.2.1.set e51.2.2.1.toNat u60.2.1.1), (u48.2.2.2.2.1, (u48.2.2.2.2.2.1, ())))))
else none
else none)
else (bif (decide ((0 : Int) ≤ e51.2.2.1 ∧ (e51.2.2.1 : Int) < u48.2.2.1.length)) then
bif (decide (e51.2.2.1.toNat < u48.2.2.1.length)) then
some ((0, ()), (((x49, ()), ()), ((u48.2.2.1.set e51.2.2.1.toNat e54), (u48.2.2.2.2.1, (u48.2.2.2.2.2.1, ())))))
else none
else none))))
else none))
else none
else none)
else (bif ((u48.2.2.2.1.drop (w64 (v.1.2.1 + 1)).toNat).take (u48.2.2.2.1.length - (w64 (v.1.2.1 + 1)).toNat)).isEmpty then ((m51 ((v.1.1, ()), ())).bind fun u61 =>
bif (decide ((0 : Int) ≤ v.1.2.1 ∧ (v.1.2.1 : Int) < u61.2.2.2.1.length)) then
(u61.2.2.2.1[v.1.2.1.toNat]?).bind fun e62 =>
Abs.rowAt v.1.1.2.2.1 e62.2.2.1 fun e63 _ =>
bif e63 then (some ((0, ()), ((((u48.2.2.2.1.take v.1.2.1.toNat), ()), ()), (u48.2.2.1, (u48.2.2.2.2.1, (u48.2.2.2.2.2.1, ()))))))
else ((m60 ((v.1.1.2.2.2.1, (e62.2.1, (e62.2.2.1, ()))), ())).bind fun u64 =>
bif u64.1.1 then (some ((0, ()), ((((u48.2.2.2.1.take v.1.2.1.toNat), ()), ()), (u48.2.2.1, (u48.2.2.2.2.1, (u48.2.2.2.2.2.1, ()))))))
else (bif (decide ((0 : Int) ≤ e62.2.2.1 ∧ (e62.2.2.1 : Int) < u48.2.2.1.length)) then
(u48.2.2.1[e62.2.2.1.toNat]?).bind fun e65 =>
bif ((e62.1 : Int) == 1) then ((m74 (((v.1.1.1.length : Int), (e65, (e62, ()))), ())).bind fun u66 =>
bif (decide ((0 : Int) ≤ e62.2.2.1 ∧ (e62.2.2.1 : Int) < u48.2.2.1.length)) then
bif (decide (e62.2.2.1.toNat < u48.2.2.1.length)) then
bif u66.1.1 then (bif (u48.2.2.2.1.take v.1.2.1.toNat).isEmpty then (bif (decide ((u48.2.2.2.1.take v.1.2.1.toNat).length + ([(u66.2.2.1.1.1, (u66.2.2.1.1.2.1, (u66.2.2.1.1.2.2.1, (u66.2.2.1.1.2.2.2.1, (u66.2.2.1.1.2.2.2.2.1, (u66.2.2.1.1.2.2.2.2.2.1, (u66.2.2.1.1.2.2.2.2.2.2.1, ([], (u66.2.2.1.1.2.2.2.2.2.2.2.1, ())))))))))] : List Y9).length ≤ 4294967296)) then
let x67 := ((u48.2.2.2.1.take v.1.2.1.toNat) ++ ([(u66.2.2.1.1.1, (u66.2.2.1.1.2.1, (u66.2.2.1.1.2.2.1, (u66.2.2.1.1.2.2.2.1, (u66.2.2.1.1.2.2.2.2.1, (u66.2.2.1.1.2.2.2.2.2.1, (u66.2.2.1.1.2.2.2.2.2.2.1, ([], (u66.2.2.1.1.2.2.2.2.2.2.2.1, ())))))))))] : List Y9))
some ((0, ()), (((x67, ()), ()), ((u48.2.2.1.set e62.2.2.1.toNat u66.2.1.1), (u48.2.2.2.2.1, (u48.2.2.2.2.2.1, ())))))
else none)
else (bif (decide ((u48.2.2.2.1.take v.1.2.1.toNat).length + ([(u66.2.2.1.1.1, (u66.2.2.1.1.2.1, (u66.2.2.1.1.2.2.1, (u66.2.2.1.1.2.2.2.1, (u66.2.2.1.1.2.2.2.2.1, (u66.2.2.1.1.2.2.2.2.2.1, (u66.2.2.1.1.2.2.2.2.2.2.1, ([], (u66.2.2.1.1.2.2.2.2.2.2.2.1, ())))))))))] : List Y9).length ≤ 4294967296)) then
let x68 := ((u48.2.2.2.1.take v.1.2.1.toNat) ++ ([(u66.2.2.1.1.1, (u66.2.2.1.1.2.1, (u66.2.2.1.1.2.2.1, (u66.2.2.1.1.2.2.2.1, (u66.2.2.1.1.2.2.2.2.1, (u66.2.2.1.1.2.2.2.2.2.1, (u66.2.2.1.1.2.2.2.2.2.2.1, ([], (u66.2.2.1.1.2.2.2.2.2.2.2.1, ())))))))))] : List Y9))
some ((0, ()), (((x68, ()), ()), ((u48.2.2.1.set e62.2.2.1.toNat u66.2.1.1), (u48.2.2.2.2.1, (u48.2.2.2.2.2.1, ())))))
else none))
else (some ((0, ()), ((((u48.2.2.2.1.take v.1.2.1.toNat), ()), ()), ((u48.2.2.1.set e62.2.2.1.toNat u66.2.1.1), (u48.2.2.2.2.1, (u48.2.2.2.2.2.1, ()))))))
else none
else none)
else (bif ((e62.1 : Int) == 2) then ((m75 (((v.1.1.1.length : Int), (e65, (e62, ()))), ())).bind fun u69 =>
bif (decide ((0 : Int) ≤ e62.2.2.1 ∧ (e62.2.2.1 : Int) < u48.2.2.1.length)) then
bif (decide (e62.2.2.1.toNat < u48.2.2.1.length)) then
some ((0, ()), ((((u48.2.2.2.1.take v.1.2.1.toNat), ()), ()), ((u48.2.2.1.set e62.2.2.1.toNat u69.2.1.1), (u48.2.2.2.2.1, (u48.2.2.2.2.2.1, ())))))
else none
else none)
else (bif ((e62.1 : Int) == 3) then ((m76 (((v.1.1.1.length : Int), (e65, (e62, ()))), ())).bind fun u70 =>
bif (decide ((0 : Int) ≤ e62.2.2.1 ∧ (e62.2.2.1 : Int) < u48.2.2.1.length)) then
bif (decide (e62.2.2.1.toNat < u48.2.2.1.length)) then
bif u70.1.1 then (bif (u48.2.2.2.1.take v.1.2.1.toNat).isEmpty then (bif (decide ((u48.2.2.2.1.take v.1.2.1.toNat).length + ([(u70.2.2.1.1.1, (u70.2.2.1.1.2.1, (u70.2.2.1.1.2.2.1, (u70.2.2.1.1.2.2.2.1, (u70.2.2.1.1.2.2.2.2.1, (u70.2.2.1.1.2.2.2.2.2.1, (u70.2.2.1.1.2.2.2.2.2.2.1, ([], (u70.2.2.1.1.2.2.2.2.2.2.2.1, ())))))))))] : List Y9).length ≤ 4294967296)) then
let x71 := ((u48.2.2.2.1.take v.1.2.1.toNat) ++ ([(u70.2.2.1.1.1, (u70.2.2.1.1.2.1, (u70.2.2.1.1.2.2.1, (u70.2.2.1.1.2.2.2.1, (u70.2.2.1.1.2.2.2.2.1, (u70.2.2.1.1.2.2.2.2.2.1, (u70.2.2.1.1.2.2.2.2.2.2.1, ([], (u70.2.2.1.1.2.2.2.2.2.2.2.1, ())))))))))] : List Y9))
some ((0, ()), (((x71, ()), ()), ((u48.2.2.1.set e62.2.2.1.toNat u70.2.1.1), (u48.2.2.2.2.1, (u48.2.2.2.2.2.1, ())))))
else none)
else (bif (decide ((u48.2.2.2.1.take v.1.2.1.toNat).length + ([(u70.2.2.1.1.1, (u70.2.2.1.1.2.1, (u70.2.2.1.1.2.2.1, (u70.2.2.1.1.2.2.2.1, (u70.2.2.1.1.2.2.2.2.1, (u70.2.2.1.1.2.2.2.2.2.1, (u70.2.2.1.1.2.2.2.2.2.2.1, ([], (u70.2.2.1.1.2.2.2.2.2.2.2.1, ())))))))))] : List Y9).length ≤ 4294967296)) then
let x72 := ((u48.2.2.2.1.take v.1.2.1.toNat) ++ ([(u70.2.2.1.1.1, (u70.2.2.1.1.2.1, (u70.2.2.1.1.2.2.1, (u70.2.2.1.1.2.2.2.1, (u70.2.2.1.1.2.2.2.2.1, (u70.2.2.1.1.2.2.2.2.2.1, (u70.2.2.1.1.2.2.2.2.2.2.1, ([], (u70.2.2.1.1.2.2.2.2.2.2.2.1, ())))))))))] : List Y9))
some ((0, ()), (((x72, ()), ()), ((u48.2.2.1.set e62.2.2.1.toNat u70.2.1.1), (u48.2.2.2.2.1, (u48.2.2.2.2.2.1, ())))))
else none))
else (some ((0, ()), ((((u48.2.2.2.1.take v.1.2.1.toNat), ()), ()), ((u48.2.2.1.set e62.2.2.1.toNat u70.2.1.1), (u48.2.2.2.2.1, (u48.2.2.2.2.2.1, ()))))))
else none
else none)
else (bif ((e62.1 : Int) == 4) then ((m77 (((v.1.1.1.length : Int), (e65, (e62, ()))), ())).bind fun u73 =>
bif (decide ((0 : Int) ≤ e62.2.2.1 ∧ (e62.2.2.1 : Int) < u48.2.2.1.length)) then
bif (decide (e62.2.2.1.toNat < u48.2.2.1.length)) then
some ((0, ()), ((((u48.2.2.2.1.take v.1.2.1.toNat), ()), ()), ((u48.2.2.1.set e62.2.2.1.toNat u73.2.1.1), (u48.2.2.2.2.1, (u48.2.2.2.2.2.1, ())))))
else none
else none)
else (bif (decide ((0 : Int) ≤ e62.2.2.1 ∧ (e62.2.2.1 : Int) < u48.2.2.1.length)) then
bif (decide (e62.2.2.1.toNat < u48.2.2.1.length)) then
some ((0, ()), ((((u48.2.2.2.1.take v.1.2.1.toNat), ()), ()), ((u48.2.2.1.set e62.2.2.1.toNat e65), (u48.2.2.2.2.1, (u48.2.2.2.2.2.1, ())))))
else none
else none))))
else none))
else none)
else (bif (decide ((u48.2.2.2.1.take v.1.2.1.toNat).length + ((u48.2.2.2.1.drop (w64 (v.1.2.1 + 1)).toNat).take (u48.2.2.2.1.length - (w64 (v.1.2.1 + 1)).toNat)).length ≤ 4294967296)) then
let x74 := ((u48.2.2.2.1.take v.1.2.1.toNat) ++ ((u48.2.2.2.1.drop (w64 (v.1.2.1 + 1)).toNat).take (u48.2.2.2.1.length - (w64 (v.1.2.1 + 1)).toNat)))
(m51 ((v.1.1, ()), ())).bind fun u75 =>
bif (decide ((0 : Int) ≤ v.1.2.1 ∧ (v.1.2.1 : Int) < u75.2.2.2.1.length)) then
(u75.2.2.2.1[v.1.2.1.toNat]?).bind fun e76 =>
Abs.rowAt v.1.1.2.2.1 e76.2.2.1 fun e77 _ =>
bif e77 then (some ((0, ()), (((x74, ()), ()), (u48.2.2.1, (u48.2.2.2.2.1, (u48.2.2.2.2.2.1, ()))))))
else ((m60 ((v.1.1.2.2.2.1, (e76.2.1, (e76.2.2.1, ()))), ())).bind fun u78 =>
bif u78.1.1 then (some ((0, ()), (((x74, ()), ()), (u48.2.2.1, (u48.2.2.2.2.1, (u48.2.2.2.2.2.1, ()))))))
else (bif (decide ((0 : Int) ≤ e76.2.2.1 ∧ (e76.2.2.1 : Int) < u48.2.2.1.length)) then
(u48.2.2.1[e76.2.2.1.toNat]?).bind fun e79 =>
bif ((e76.1 : Int) == 1) then ((m74 (((v.1.1.1.length : Int), (e79, (e76, ()))), ())).bind fun u80 =>
bif (decide ((0 : Int) ≤ e76.2.2.1 ∧ (e76.2.2.1 : Int) < u48.2.2.1.length)) then
bif (decide (e76.2.2.1.toNat < u48.2.2.1.length)) then
bif u80.1.1 then (bif (decide (x74.length + ([(u80.2.2.1.1.1, (u80.2.2.1.1.2.1, (u80.2.2.1.1.2.2.1, (u80.2.2.1.1.2.2.2.1, (u80.2.2.1.1.2.2.2.2.1, (u80.2.2.1.1.2.2.2.2.2.1, (u80.2.2.1.1.2.2.2.2.2.2.1, ([], (u80.2.2.1.1.2.2.2.2.2.2.2.1, ())))))))))] : List Y9).length ≤ 4294967296)) then
let x81 := (x74 ++ ([(u80.2.2.1.1.1, (u80.2.2.1.1.2.1, (u80.2.2.1.1.2.2.1, (u80.2.2.1.1.2.2.2.1, (u80.2.2.1.1.2.2.2.2.1, (u80.2.2.1.1.2.2.2.2.2.1, (u80.2.2.1.1.2.2.2.2.2.2.1, ([], (u80.2.2.1.1.2.2.2.2.2.2.2.1, ())))))))))] : List Y9))
some ((0, ()), (((x81, ()), ()), ((u48.2.2.1.set e76.2.2.1.toNat u80.2.1.1), (u48.2.2.2.2.1, (u48.2.2.2.2.2.1, ())))))
else none)
else (some ((0, ()), (((x74, ()), ()), ((u48.2.2.1.set e76.2.2.1.toNat u80.2.1.1), (u48.2.2.2.2.1, (u48.2.2.2.2.2.1, ()))))))
else none
else none)
else (bif ((e76.1 : Int) == 2) then ((m75 (((v.1.1.1.length : Int), (e79, (e76, ()))), ())).bind fun u82 =>
bif (decide ((0 : Int) ≤ e76.2.2.1 ∧ (e76.2.2.1 : Int) < u48.2.2.1.length)) then
bif (decide (e76.2.2.1.toNat < u48.2.2.1.length)) then
some ((0, ()), (((x74, ()), ()), ((u48.2.2.1.set e76.2.2.1.toNat u82.2.1.1), (u48.2.2.2.2.1, (u48.2.2.2.2.2.1, ())))))
else none
else none)
else (bif ((e76.1 : Int) == 3) then ((m76 (((v.1.1.1.length : Int), (e79, (e76, ()))), ())).bind fun u83 =>
bif (decide ((0 : Int) ≤ e76.2.2.1 ∧ (e76.2.2.1 : Int) < u48.2.2.1.length)) then
bif (decide (e76.2.2.1.toNat < u48.2.2.1.length)) then
bif u83.1.1 then (bif (decide (x74.length + ([(u83.2.2.1.1.1, (u83.2.2.1.1.2.1, (u83.2.2.1.1.2.2.1, (u83.2.2.1.1.2.2.2.1, (u83.2.2.1.1.2.2.2.2.1, (u83.2.2.1.1.2.2.2.2.2.1, (u83.2.2.1.1.2.2.2.2.2.2.1, ([], (u83.2.2.1.1.2.2.2.2.2.2.2.1, ())))))))))] : List Y9).length ≤ 4294967296)) then
let x84 := (x74 ++ ([(u83.2.2.1.1.1, (u83.2.2.1.1.2.1, (u83.2.2.1.1.2.2.1, (u83.2.2.1.1.2.2.2.1, (u83.2.2.1.1.2.2.2.2.1, (u83.2.2.1.1.2.2.2.2.2.1, (u83.2.2.1.1.2.2.2.2.2.2.1, ([], (u83.2.2.1.1.2.2.2.2.2.2.2.1, ())))))))))] : List Y9))
some ((0, ()), (((x84, ()), ()), ((u48.2.2.1.set e76.2.2.1.toNat u83.2.1.1), (u48.2.2.2.2.1, (u48.2.2.2.2.2.1, ())))))
else none)
else (some ((0, ()), (((x74, ()), ()), ((u48.2.2.1.set e76.2.2.1.toNat u83.2.1.1), (u48.2.2.2.2.1, (u48.2.2.2.2.2.1, ()))))))
else none
else none)
else (bif ((e76.1 : Int) == 4) then ((m77 (((v.1.1.1.length : Int), (e79, (e76, ()))), ())).bind fun u85 =>
bif (decide ((0 : Int) ≤ e76.2.2.1 ∧ (e76.2.2.1 : Int) < u48.2.2.1.length)) then
bif (decide (e76.2.2.1.toNat < u48.2.2.1.length)) then
some ((0, ()), (((x74, ()), ()), ((u48.2.2.1.set e76.2.2.1.toNat u85.2.1.1), (u48.2.2.2.2.1, (u48.2.2.2.2.2.1, ())))))
else none
else none)
else (bif (decide ((0 : Int) ≤ e76.2.2.1 ∧ (e76.2.2.1 : Int) < u48.2.2.1.length)) then
bif (decide (e76.2.2.1.toNat < u48.2.2.1.length)) then
some ((0, ()), (((x74, ()), ()), ((u48.2.2.1.set e76.2.2.1.toNat e79), (u48.2.2.2.2.1, (u48.2.2.2.2.2.1, ())))))
else none
else none))))
else none))
else none
else none))
else none
else none
else none
else none
else none
else none)

def sp34 : Abs.Spec := ⟨0, i34, o34, m34⟩

def an34 : Nat → Abs.FAn
  | 0 => Abs.FAn.mk (fun _ => none) (fun _ => none) (fun _ => none) (fun
    | 1, 2 => 1
    | _, _ => 0)
  | _ => {}

theorem ok34 : Abs.SpecOK Tryz.prog 34 sp34 :=
  okW (an := an34) (alc ok78 (alc ok51 (alc ok60 (alc ok74 (alc ok75 (alc ok76 (alc ok77 al0))))))) rfl (by intro v; kernel_rfl)

/- warnings: indexAddr: size -/

def l82_0_1 (v : ((Unit) × (((Unit) × Unit) × (Y5 × Unit) × Unit))) : Option (((Unit) × (((Unit) × Unit) × (Y5 × Unit) × Unit)) ⊕ ((Unit) × (((Unit) × Unit) × (Y5 × Unit) × Unit))) :=
let x13 := (decide (((v.2.2.1.1.2.1.length : Int) : Int) > 0))
bif x13 then ((m34 ((v.2.2.1.1, (0, ())), ())).bind fun u14 =>
bif ((u14.1.1 : Int) != 0) then (some (.inr ((), (((), ()), ((v.2.2.1.1, ()), ())))))
else (some (.inl ((), (((), ()), (((u14.2.2.1, (u14.2.1.1.1, (u14.2.2.2.1, (u14.2.2.2.2.1, ())))), ()), ()))))))
else (some (.inr ((), (((), ()), ((v.2.2.1.1, ()), ())))))

/- pagewatch/pagewatchref34.Flush -/
def i82 : Abs.Sg := ⟨[0], Qs26, .nil⟩

def o82 : Abs.Sg := ⟨[2], (.st Qx9 .nil), Qb11⟩

def m82 (v : ((Y5 × Unit) × (Unit))) : Option ((Unit) × ((Y5 × Unit) × Unit)) :=
(loopT l82_0_1 ((), (((), ()), ((v.1.1, ()), ())))).bind fun d15 =>
some ((), ((d15.2.2.1.1, ()), ()))

def sp82 : Abs.Spec := ⟨0, i82, o82, m82⟩

def an82 : Nat → Abs.FAn
  | 0 => Abs.FAn.mk (fun _ => none) (fun _ => none) (fun
    | 1 => some ⟨⟨[2, 1], Qs17, (.box 4 Qs7 Qb11)⟩, (.one (.exit 0) ⟨[2, 1], Qs17, (.box 4 Qs7 Qb11)⟩)⟩
    | _ => none) (fun _ _ => 0)
  | _ => {}

theorem ok82 : Abs.SpecOK Tryz.prog 82 sp82 :=
  okW (an := an82) (alc ok34 al0) rfl (by intro v; kernel_rfl)

def l73_0_5 (v : ((Int × Int × Unit) × ((List Y9) × (Y8 × Unit) × Unit))) : Option (((Int × Int × Unit) × ((List Y9) × (Y8 × Unit) × Unit)) ⊕ ((Unit) × ((List Y9) × Unit))) :=
bif (decide ((v.1.1 : Int) < v.1.2.1)) then (((bif ((v.1.1 : Int) == v.2.2.1.1.1) then (some ((v.1.2.1, (v.1.1, ())), (v.2.1, ((v.2.2.1.1, ()), ()))))
else (Abs.rowAt v.2.2.1.1.2.2.2.2.2.2.2.1 v.1.1 fun e42 _ =>
bif (decide ((0 : Int) ≤ e42)) then
bif (decide (e42.toNat ≤ v.2.2.1.1.2.2.2.2.1.length ∧ v.2.2.1.1.2.2.2.2.1.length ≤ v.2.2.1.1.2.2.2.2.1.length)) then
let x43 := ((v.2.2.1.1.2.2.2.2.1.drop e42.toNat).take (v.2.2.1.1.2.2.2.2.1.length - e42.toNat))
bif (decide (0 + x43.length ≤ 4294967296)) then
((bif (decide ((e42 : Int) > 0)) then (Abs.rowAt v.2.2.1.1.2.2.2.2.1 (w64 (e42 - 1)) fun e44 _ =>
some ((v.1.2.1, (v.1.1, ())), ((v.2.2.1.1, ()), (((3, (v.2.2.1.1.1, (v.1.1, (v.2.2.1.1.2.1, (e42, (e44.1, (v.2.2.1.1.2.2.2.2.2.1, (false, ())))))))), ()), (v.2.1, (x43, ()))))))
else (some ((v.1.2.1, (v.1.1, ())), ((v.2.2.1.1, ()), (((3, (v.2.2.1.1.1, (v.1.1, (v.2.2.1.1.2.1, (e42, (0, (v.2.2.1.1.2.2.2.2.2.1, (false, ())))))))), ()), (v.2.1, (x43, ()))))))) : Option ((Int × Int × Unit) × ((Y8 × Unit) × Y17 × (List Y9) × Y2 × Unit))).bind fun v45 =>
bif (decide (v45.2.2.2.1.length + ([(v45.2.2.1.1.1, (v45.2.2.1.1.2.1, (v45.2.2.1.1.2.2.1, (v45.2.2.1.1.2.2.2.1, (v45.2.2.1.1.2.2.2.2.1, (v45.2.2.1.1.2.2.2.2.2.1, (v45.2.2.1.1.2.2.2.2.2.2.1, (v45.2.2.2.2.1, (v45.2.2.1.1.2.2.2.2.2.2.2.1, ())))))))))] : List Y9).length ≤ 4294967296)) then
let x46 := (v45.2.2.2.1 ++ ([(v45.2.2.1.1.1, (v45.2.2.1.1.2.1, (v45.2.2.1.1.2.2.1, (v45.2.2.1.1.2.2.2.1, (v45.2.2.1.1.2.2.2.2.1, (v45.2.2.1.1.2.2.2.2.2.1, (v45.2.2.1.1.2.2.2.2.2.2.1, (v45.2.2.2.2.1, (v45.2.2.1.1.2.2.2.2.2.2.2.1, ())))))))))] : List Y9))
some ((v45.1.1, (v45.1.2.1, ())), (x46, ((v45.2.1.1, ()), ())))
else none
else none
else none
else none)) : Option ((Int × Int × Unit) × ((List Y9) × (Y8 × Unit) × Unit))).bind fun v47 =>
some (.inl (((w64 (v47.1.2.1 + 1)), (v47.1.1, ())), (v47.2.1, ((v47.2.2.1.1, ()), ())))))
else (some (.inr ((), (v.2.1, ()))))

/- pagewatch/pagewatchref33.Appends -/
def i73 : Abs.Sg := ⟨[0, 1], Qs37, .nil⟩

def o73 : Abs.Sg := ⟨[4], (.st (.own Z4 (0, 0)) .nil), (.arr Z4 false .nil)⟩

def m73 (v : ((Int × Y8 × Unit) × (Unit))) : Option ((Unit) × ((List Y9) × Unit)) :=
(((m59 ((v.1.1, (v.1.2.1, ())), ())).bind fun u40 =>
bif (!u40.1.1) then (some ((true, (v.1.1, ())), ((v.1.2.1, ()), ())))
else (some ((((v.1.2.1.2.2.2.1 : Int) != 2), (v.1.1, ())), ((v.1.2.1, ()), ())))) : Option ((Bool × Int × Unit) × ((Y8 × Unit) × Unit))).bind fun v41 =>
bif v41.1.1 then (some ((), ([], ())))
else ((loopT l73_0_5 ((0, (v41.1.2.1, ())), ([], ((v41.2.1.1, ()), ())))).bind fun d48 =>
some ((), (d48.2.1, ())))

def sp73 : Abs.Spec := ⟨0, i73, o73, m73⟩

def an73 : Nat → Abs.FAn
  | 0 => Abs.FAn.mk (fun
    | 1 => some ⟨[17, 3, 0], (.dat .bool (.st Qx10 Qs3)), Qb14⟩
    | _ => none) (fun
    | 6 => some (⟨[5, 3, 0, 6], (.st (.own Z4 (0, 0)) (.st Qx20 Qs13)), (.arr Z4 false Qb14)⟩, none)
    | 12 => some (⟨[3, 0, 6, 8, 5], (.st Qx10 (.dat (.int .i64) (.dat (.int .i64) (.st Qx35 (.st (.own Z4 (2, 0)) .nil))))), (.box 8 Qs21 (.box 9 (.agg (.dat (.int .i64) (.dat (.int .i64) (.dat (.int .i64) (.dat (.int .i64) (.dat (.int .i64) (.dat (.int .i64) (.dat (.int .i64) (.st (.own Z1 (3, 0)) Qs12)))))))) .nil) (.arr Z4 false (.arr Z1 false .nil))))⟩, none)
    | _ => none) (fun
    | 5 => some ⟨⟨[6, 5, 3, 0], (.dat (.int .i64) (.st (.own Z4 (0, 0)) (.st Qx20 Qs3))), (.arr Z4 false Qb14)⟩, (.one (.exit 0) ⟨[5], (.st (.own Z4 (0, 0)) .nil), (.arr Z4 false .nil)⟩)⟩
    | _ => none) (fun _ _ => 0)
  | _ => {}

theorem ok73 : Abs.SpecOK Tryz.prog 73 sp73 :=
  okW (an := an73) (alc ok59 al0) rfl (by intro v; kernel_rfl)

/- pagewatch/pagewatchref34.Beat -/
def i33 : Abs.Sg := ⟨[0, 1], (.dat Z7 Qs3), .nil⟩

def o33 : Abs.Sg := ⟨[4, 5], (.st Qx9 Qs3), Qb2⟩

def m33 (v : Y20) : Option ((Int × Unit) × Y13) :=
(m61 ((v.1.1, (v.1.2.1, ())), ())).bind fun u25 =>
bif ((u25.1.1 : Int) != 0) then (some ((u25.1.1, ()), (((), ()), ([], ([], ([], ([], ())))))))
else (Abs.rowAt v.1.1.2.2.1 v.1.2.1 fun e26 _ =>
bif e26 then (some ((21, ()), (((), ()), ([], ([], ([], ([], ())))))))
else (Abs.rowAt v.1.1.1 v.1.2.1 fun e27 _ =>
bif ((e27.2.2.2.1 : Int) != 2) then (some ((22, ()), (((), ()), ([], ([], ([], ([], ())))))))
else ((m51 ((v.1.1, ()), ())).bind fun u28 =>
bif (decide ((0 : Int) ≤ v.1.2.1 ∧ (v.1.2.1 : Int) < u28.2.2.1.length)) then
(u28.2.2.1[v.1.2.1.toNat]?).bind fun e29 =>
(m73 (((v.1.1.1.length : Int), (e29, ())), ())).bind fun u30 =>
let x31 := (w64 (((u28.2.2.2.1.length : Nat) : Int) + ((u30.2.1.length : Nat) : Int)))
bif (decide ((x31 : Int) > 256)) then (some ((5, ()), (((), ()), ([], ([], ([], ([], ())))))))
else (bif (decide (u28.2.2.2.1.length + u30.2.1.length ≤ 4294967296)) then
some ((0, ()), (((), ()), (u28.2.2.1, ((u28.2.2.2.1 ++ u30.2.1), (u28.2.2.2.2.1, (u28.2.2.2.2.2.1, ()))))))
else none)
else none)))

def sp33 : Abs.Spec := ⟨0, i33, o33, m33⟩

def an33 : Nat → Abs.FAn
  | _ => {}

theorem ok33 : Abs.SpecOK Tryz.prog 33 sp33 :=
  okW (an := an33) (alc ok61 (alc ok51 (alc ok73 al0))) rfl (by intro v; kernel_rfl)

def l41_0_11 (v : ((Int × Int × Unit) × ((Y5 × Unit) × ((Unit) × Unit) × Unit))) : Option (((Int × Int × Unit) × ((Y5 × Unit) × ((Unit) × Unit) × Unit)) ⊕ ((Unit) × (((Unit) × Unit) × (Y5 × Unit) × Unit))) :=
((bif (decide ((v.1.1 : Int) < 2)) then (Abs.rowAt v.2.1.1.1 v.1.2.1 fun e40 _ =>
some ((((e40.2.2.2.1 : Int) == 2), (v.1.2.1, (v.1.1, ()))), ((v.2.1.1, ()), (((), ()), ()))))
else (some ((false, (v.1.2.1, (v.1.1, ()))), ((v.2.1.1, ()), (((), ()), ()))))) : Option ((Bool × Int × Int × Unit) × ((Y5 × Unit) × ((Unit) × Unit) × Unit))).bind fun v41 =>
bif v41.1.1 then ((m33 ((v41.2.1.1, (v41.1.2.1, ())), ())).bind fun u42 =>
(m82 (((u42.2.2.1, (u42.2.2.2.1, (u42.2.2.2.2.1, (u42.2.2.2.2.2.1, ())))), ()), ())).bind fun u43 =>
some (.inl (((w64 (v41.1.2.2.1 + 1)), (v41.1.2.1, ())), ((u43.2.1.1, ()), (((), ()), ())))))
else (some (.inr ((), (((), ()), ((v41.2.1.1, ()), ())))))

/- pagewatch/pagewatchref34.Settle -/
def i41 : Abs.Sg := ⟨[0, 1], (.dat Z7 Qs3), .nil⟩

def o41 : Abs.Sg := ⟨[4, 5], (.st Qx9 Qs3), Qb11⟩

def m41 (v : Y20) : Option ((Int × Unit) × ((Y5 × Unit) × Unit)) :=
(m61 ((v.1.1, (v.1.2.1, ())), ())).bind fun u36 =>
bif ((u36.1.1 : Int) != 0) then (some ((u36.1.1, ()), ((([], ([], ([], ([], ())))), ()), ())))
else ((m51 ((v.1.1, ()), ())).bind fun u37 =>
(m29 (((u37.2.2.1, ([], (u37.2.2.2.2.1, (u37.2.2.2.2.2.1, ())))), (v.1.2.1, ())), ())).bind fun u38 =>
bif ((u38.1.1 : Int) != 0) then (some ((u38.1.1, ()), ((([], ([], ([], ([], ())))), ()), ())))
else ((m82 (((u38.2.2.1, (u38.2.2.2.1, (u38.2.2.2.2.1, (u38.2.2.2.2.2.1, ())))), ()), ())).bind fun u39 =>
(loopT l41_0_11 ((0, (v.1.2.1, ())), ((u39.2.1.1, ()), (((), ()), ())))).bind fun d44 =>
some ((0, ()), ((d44.2.2.1.1, ()), ()))))

def sp41 : Abs.Spec := ⟨0, i41, o41, m41⟩

def an41 : Nat → Abs.FAn
  | 0 => Abs.FAn.mk (fun
    | 11 => some ⟨[41, 2, 1, 4, 8], (.dat .bool (.st Qx9 (.dat (.int .i64) (.st Qx23 Qs3)))), (.box 4 Qs26 (.box 4 Qs7 .nil))⟩
    | _ => none) (fun _ => none) (fun
    | 11 => some ⟨⟨[8, 2, 1, 4], (.dat (.int .i64) (.st Qx9 (.dat (.int .i64) (.st Qx23 .nil)))), (.box 4 Qs26 (.box 4 Qs7 .nil))⟩, (.one (.exit 0) ⟨[4, 2], Qs17, (.box 4 Qs7 Qb11)⟩)⟩
    | _ => none) (fun _ _ => 0)
  | _ => {}

theorem ok41 : Abs.SpecOK Tryz.prog 41 sp41 :=
  okW (an := an41) (alc ok61 (alc ok51 (alc ok29 (alc ok82 (alc ok33 al0))))) rfl (by intro v; kernel_rfl)

def l43_0_3 (v : ((Int × Int × Bool × Unit) × ((Y5 × Unit) × Unit))) : Option (((Int × Int × Bool × Unit) × ((Y5 × Unit) × Unit)) ⊕ ((Bool × Int × Unit) × (Unit))) :=
((let x43 := (decide ((v.1.1 : Int) < (v.2.1.1.1.length : Int)))
bif x43 then ((m15 ((v.2.1.1, ()), ())).bind fun u44 =>
some ((u44.1.1, (v.1.1, (v.1.2.1, (v.1.2.2.1, ())))), ((v.2.1.1, ()), ())))
else (some ((false, (v.1.1, (v.1.2.1, (v.1.2.2.1, ())))), ((v.2.1.1, ()), ())))) : Option ((Bool × Int × Int × Bool × Unit) × ((Y5 × Unit) × Unit))).bind fun v45 =>
bif v45.1.1 then (((Abs.rowAt v45.2.1.1.1 v45.1.2.1 fun e46 _ =>
((bif ((e46.2.2.2.1 : Int) == 2) then (Abs.rowAt v45.2.1.1.2.2.1 v45.1.2.1 fun e47 _ =>
bif (!e47) then (bif (!v45.1.2.2.2.1) then (some ((true, (v45.1.2.1, (v45.1.2.2.1, (v45.1.2.2.2.1, ())))), ((v45.2.1.1, ()), ())))
else (Abs.rowAt v45.2.1.1.1 v45.1.2.2.1 fun e48 _ =>
some (((decide ((e46.2.1 : Int) > e48.2.1)), (v45.1.2.1, (v45.1.2.2.1, (v45.1.2.2.2.1, ())))), ((v45.2.1.1, ()), ()))))
else (some ((false, (v45.1.2.1, (v45.1.2.2.1, (v45.1.2.2.2.1, ())))), ((v45.2.1.1, ()), ()))))
else (some ((false, (v45.1.2.1, (v45.1.2.2.1, (v45.1.2.2.2.1, ())))), ((v45.2.1.1, ()), ())))) : Option ((Bool × Int × Int × Bool × Unit) × ((Y5 × Unit) × Unit))).bind fun v49 =>
bif v49.1.1 then (some ((v49.1.2.1, (true, (v49.1.2.1, ()))), ((v49.2.1.1, ()), ())))
else (some ((v49.1.2.2.1, (v49.1.2.2.2.1, (v49.1.2.1, ()))), ((v49.2.1.1, ()), ())))) : Option ((Int × Bool × Int × Unit) × ((Y5 × Unit) × Unit))).bind fun v50 =>
some (.inl (((w64 (v50.1.2.2.1 + 1)), (v50.1.1, (v50.1.2.1, ()))), ((v50.2.1.1, ()), ()))))
else (some (.inr ((v45.1.2.2.2.1, (v45.1.2.2.1, ())), ())))

/- pagewatch/pagewatchref34.Leader -/
def i43 : Abs.Sg := ⟨[0], Qs26, .nil⟩

def o43 : Abs.Sg := ⟨[2, 3], (.dat (.int .i64) Qs12), .nil⟩

def m43 (v : ((Y5 × Unit) × (Unit))) : Option ((Int × Bool × Unit) × (Unit)) :=
(loopT l43_0_3 ((0, (0, (false, ()))), ((v.1.1, ()), ()))).bind fun d51 =>
some ((d51.1.2.1, (d51.1.1, ())), ())

def sp43 : Abs.Spec := ⟨0, i43, o43, m43⟩

def an43 : Nat → Abs.FAn
  | 0 => Abs.FAn.mk (fun
    | 6 => some ⟨[49, 1, 6, 4, 5], (.dat .bool (.st Qx9 (.dat (.int .i64) (.dat (.int .i64) Qs12)))), Qb11⟩
    | 3 => some ⟨[16, 1, 6, 4, 5], (.dat .bool (.st Qx9 (.dat (.int .i64) (.dat (.int .i64) Qs12)))), Qb11⟩
    | _ => none) (fun
    | 4 => some (⟨[4, 1, 5, 6], (.dat (.int .i64) (.st Qx9 (.dat .bool Qs3))), Qb11⟩, none)
    | _ => none) (fun
    | 3 => some ⟨⟨[6, 4, 1, 5], (.dat (.int .i64) (.dat (.int .i64) (.st Qx9 Qs12))), Qb11⟩, (.one (.exit 0) ⟨[5, 4], (.dat .bool Qs3), .nil⟩)⟩
    | _ => none) (fun _ _ => 0)
  | _ => {}

theorem ok43 : Abs.SpecOK Tryz.prog 43 sp43 :=
  okW (an := an43) (alc ok15 al0) rfl (by intro v; kernel_rfl)

def l72_0_6 (v : ((Int × Int × Unit) × (Y12 × (Y10 × Unit) × (Y8 × Unit) × Unit))) : Option (((Int × Int × Unit) × (Y12 × (Y10 × Unit) × (Y8 × Unit) × Unit)) ⊕ (((Int × Unit) × (Y12 × Unit)) ⊕ ((Int × Unit) × (Y12 × (Y8 × Unit) × (Y10 × Unit) × Unit)))) :=
let x38 := (decide ((v.1.1 : Int) < (v.2.2.2.1.1.2.2.2.2.1.length : Int)))
bif x38 then (Abs.rowAt v.2.2.2.1.1.2.2.2.2.1 v.1.1 fun e39 _ =>
bif ((e39.2.1.1 : Int) == v.2.2.1.1.1) then (some (.inr (.inl ((4, ()), (((0, (0, (0, (0, (0, ()))))), ()), ())))))
else (some (.inl (((w64 (v.1.1 + 1)), (v.1.2.1, ())), (((v.2.1.1.1, (v.2.1.1.2.1, (v.2.1.1.2.2.1, (v.2.1.1.2.2.2.1, (v.2.1.1.2.2.2.2.1, ()))))), ()), ((v.2.2.1.1, ()), ((v.2.2.2.1.1, ()), ())))))))
else (some (.inr (.inr ((v.1.2.1, ()), (((v.2.1.1.1, (v.2.1.1.2.1, (v.2.1.1.2.2.1, (v.2.1.1.2.2.2.1, (v.2.1.1.2.2.2.2.1, ()))))), ()), ((v.2.2.2.1.1, ()), ((v.2.2.1.1, ()), ())))))))

/- pagewatch/pagewatchref33.Propose -/
def i72 : Abs.Sg := ⟨[0, 1, 2], (.dat (.int .i64) (.dat Z3 (.dat Z6 .nil))), .nil⟩

def o72 : Abs.Sg := ⟨[6, 7], (.st Qx10 Qs3), Qb19⟩

def m72 (v : ((Int × Y8 × Y10 × Unit) × (Unit))) : Option ((Int × Unit) × (Y12 × Y2 × (List Bool) × (List Int) × Unit)) :=
(m59 ((v.1.1, (v.1.2.1, ())), ())).bind fun u37 =>
bif (!u37.1.1) then (some ((8, ()), (((0, (0, (0, (0, (0, ()))))), ()), ([], ([], ([], ()))))))
else (bif ((v.1.2.1.2.2.2.1 : Int) != 2) then (some ((22, ()), (((0, (0, (0, (0, (0, ()))))), ()), ([], ([], ([], ()))))))
else ((loopT l72_0_6 ((0, (v.1.1, ())), (((0, (0, (0, (0, (0, ()))))), ()), ((v.1.2.2.1, ()), ((v.1.2.1, ()), ()))))).bind fun d40 =>
sumE d40 (fun d41 => (some ((d41.1.1, ()), (((d41.2.1.1.1, (d41.2.1.1.2.1, (d41.2.1.1.2.2.1, (d41.2.1.1.2.2.2.1, (d41.2.1.1.2.2.2.2.1, ()))))), ()), ([], ([], ([], ()))))))) (fun d42 => (let x43 := (decide (((d42.2.2.1.1.2.2.2.2.1.length : Int) : Int) ≥ 256))
bif x43 then (some ((5, ()), (((0, (0, (0, (0, (0, ()))))), ()), ([], ([], ([], ()))))))
else ((m89 ((d42.2.2.1.1, ()), ())).bind fun u44 =>
bif (decide (u44.2.2.1.length + ([(d42.2.2.1.1.2.1, (d42.2.2.2.1.1, ()))] : List (Int × Y10 × Unit)).length ≤ 4294967296)) then
let x45 := (u44.2.2.1 ++ ([(d42.2.2.1.1.2.1, (d42.2.2.2.1.1, ()))] : List (Int × Y10 × Unit)))
bif (decide ((0 : Int) ≤ d42.2.2.1.1.1 ∧ (d42.2.2.1.1.1 : Int) < u44.2.2.2.2.1.length)) then
bif (decide (d42.2.2.1.1.1.toNat < u44.2.2.2.2.1.length)) then
(((m13 ((d42.1.1, ()), ())).bind fun u46 =>
bif ((u46.1.1 : Int) == 1) then (some ((), (((d42.2.1.1.1, (d42.2.1.1.2.1, (d42.2.1.1.2.2.1, (d42.2.1.1.2.2.2.1, (d42.2.1.1.2.2.2.2.1, ()))))), ()), (((u44.2.1.1.1, (u44.2.1.1.2.1, (u44.2.1.1.2.2.1, (u44.2.1.1.2.2.2.1, (((x45.length : Nat) : Int), ()))))), ()), (x45, (u44.2.2.2.1, ((u44.2.2.2.2.1.set d42.2.2.1.1.1.toNat ((x45.length : Nat) : Int)), ())))))))
else (some ((), (((d42.2.1.1.1, (d42.2.1.1.2.1, (d42.2.1.1.2.2.1, (d42.2.1.1.2.2.2.1, (d42.2.1.1.2.2.2.2.1, ()))))), ()), (((u44.2.1.1.1, (u44.2.1.1.2.1, (u44.2.1.1.2.2.1, (u44.2.1.1.2.2.2.1, (u44.2.1.1.2.2.2.2.1, ()))))), ()), (x45, (u44.2.2.2.1, ((u44.2.2.2.2.1.set d42.2.2.1.1.1.toNat ((x45.length : Nat) : Int)), ())))))))) : Option ((Unit) × Y19)).bind fun v47 =>
some ((0, ()), (((v47.2.2.1.1.1, (v47.2.2.1.1.2.1, (v47.2.2.1.1.2.2.1, (v47.2.2.1.1.2.2.2.1, (v47.2.2.1.1.2.2.2.2.1, ()))))), ()), (v47.2.2.2.1, (v47.2.2.2.2.1, (v47.2.2.2.2.2.1, ())))))
else none
else none
else none)))))

def sp72 : Abs.Spec := ⟨0, i72, o72, m72⟩

def an72 : Nat → Abs.FAn
  | 0 => Abs.FAn.mk (fun _ => none) (fun
    | 17 => some (⟨[6, 9], Qs41, (.box 8 Qs1 (.box 8 Qs4 Qb8))⟩, none)
    | _ => none) (fun
    | 6 => some ⟨⟨[6, 8, 5, 4, 0], (.st Qx10 (.dat (.int .i64) (.st (.ptr (1, 0) 20 0 0) (.st Qx38 Qs3)))), (.box 8 Qs1 (.box 20 (.dat Z6 .nil) Qb14))⟩, (.more .ret ⟨[6, 7], (.st Qx10 Qs3), (.box 8 Qs1 .nil)⟩ (.one (.exit 0) ⟨[6, 0, 4, 5], (.st Qx10 (.dat (.int .i64) (.st Qx20 (.st (.ptr (2, 0) 20 0 0) .nil)))), (.box 8 Qs1 (.box 8 Qs21 (.box 20 (.dat Z6 .nil) .nil)))⟩))⟩
    | _ => none) (fun _ _ => 0)
  | _ => {}

theorem ok72 : Abs.SpecOK Tryz.prog 72 sp72 :=
  okW (an := an72) (alc ok59 (alc ok89 (alc ok13 al0))) rfl (by intro v; kernel_rfl)

/- pagewatch/pagewatchref34.Propose -/
def i31 : Abs.Sg := ⟨[0, 1, 2], (.dat Z7 (.dat (.int .i64) (.dat Z6 .nil))), .nil⟩

def o31 : Abs.Sg := ⟨[6, 7], (.st Qx9 Qs3), Qb2⟩

def m31 (v : ((Y5 × Int × Y10 × Unit) × (Unit))) : Option ((Int × Unit) × Y13) :=
(m61 ((v.1.1, (v.1.2.1, ())), ())).bind fun u17 =>
bif ((u17.1.1 : Int) != 0) then (some ((u17.1.1, ()), (((), ()), ([], ([], ([], ([], ())))))))
else (Abs.rowAt v.1.1.2.2.1 v.1.2.1 fun e18 _ =>
bif e18 then (some ((21, ()), (((), ()), ([], ([], ([], ([], ())))))))
else ((m51 ((v.1.1, ()), ())).bind fun u19 =>
bif (decide ((0 : Int) ≤ v.1.2.1 ∧ (v.1.2.1 : Int) < u19.2.2.1.length)) then
(u19.2.2.1[v.1.2.1.toNat]?).bind fun e20 =>
(m72 (((v.1.1.1.length : Int), (e20, (v.1.2.2.1, ()))), ())).bind fun u21 =>
bif ((u21.1.1 : Int) != 0) then (some ((u21.1.1, ()), (((), ()), ([], ([], ([], ([], ())))))))
else (bif (decide ((0 : Int) ≤ v.1.2.1 ∧ (v.1.2.1 : Int) < u19.2.2.1.length)) then
bif (decide (v.1.2.1.toNat < u19.2.2.1.length)) then
some ((0, ()), (((), ()), ((u19.2.2.1.set v.1.2.1.toNat (u21.2.1.1.1, (u21.2.1.1.2.1, (u21.2.1.1.2.2.1, (u21.2.1.1.2.2.2.1, (u21.2.2.1, (u21.2.1.1.2.2.2.2.1, (u21.2.2.2.1, (u21.2.2.2.2.1, ()))))))))), (u19.2.2.2.1, (u19.2.2.2.2.1, (u19.2.2.2.2.2.1, ()))))))
else none
else none)
else none))

def sp31 : Abs.Spec := ⟨0, i31, o31, m31⟩

def an31 : Nat → Abs.FAn
  | _ => {}

theorem ok31 : Abs.SpecOK Tryz.prog 31 sp31 :=
  okW (an := an31) (alc ok61 (alc ok51 (alc ok72 al0))) rfl (by intro v; kernel_rfl)

/- pagewatch/pagewatchref34.Double -/
def i36 : Abs.Sg := ⟨[0, 1], (.dat Z7 Qs3), .nil⟩

def o36 : Abs.Sg := ⟨[4, 5], (.st Qx9 Qs3), Qb2⟩

def m36 (v : Y20) : Option ((Int × Unit) × Y13) :=
(m78 ((v.1.1, (v.1.2.1, ())), ())).bind fun u20 =>
bif ((u20.1.1 : Int) != 0) then (some ((u20.1.1, ()), (((), ()), ([], ([], ([], ([], ())))))))
else (let x21 := (decide (((v.1.1.2.1.length : Int) : Int) ≥ 256))
bif x21 then (some ((5, ()), (((), ()), ([], ([], ([], ([], ())))))))
else ((m51 ((v.1.1, ()), ())).bind fun u22 =>
(m51 ((v.1.1, ()), ())).bind fun u23 =>
bif (decide ((0 : Int) ≤ v.1.2.1 ∧ (v.1.2.1 : Int) < u23.2.2.2.1.length)) then
(u23.2.2.2.1[v.1.2.1.toNat]?).bind fun e24 =>
bif (decide (u22.2.2.2.1.length + ([e24] : List Y9).length ≤ 4294967296)) then
let x25 := (u22.2.2.2.1 ++ ([e24] : List Y9))
some ((0, ()), (((), ()), (u22.2.2.1, (x25, (u22.2.2.2.2.1, (u22.2.2.2.2.2.1, ()))))))
else none
else none))

def sp36 : Abs.Spec := ⟨0, i36, o36, m36⟩

def an36 : Nat → Abs.FAn
  | _ => {}

theorem ok36 : Abs.SpecOK Tryz.prog 36 sp36 :=
  okW (an := an36) (alc ok78 (alc ok51 al0)) rfl (by intro v; kernel_rfl)

/- pagewatch/pagewatchref34.Crash -/
def i18 : Abs.Sg := ⟨[0, 1], (.dat Z7 Qs3), .nil⟩

def o18 : Abs.Sg := ⟨[4, 5], (.st Qx9 Qs3), Qb2⟩

def m18 (v : Y20) : Option ((Int × Unit) × Y13) :=
(m61 ((v.1.1, (v.1.2.1, ())), ())).bind fun u11 =>
bif ((u11.1.1 : Int) != 0) then (some ((u11.1.1, ()), (((), ()), ([], ([], ([], ([], ())))))))
else (Abs.rowAt v.1.1.2.2.1 v.1.2.1 fun e12 _ =>
bif e12 then (some ((9, ()), (((), ()), ([], ([], ([], ([], ())))))))
else ((m51 ((v.1.1, ()), ())).bind fun u13 =>
bif (decide ((0 : Int) ≤ v.1.2.1 ∧ (v.1.2.1 : Int) < u13.2.2.2.2.1.length)) then
bif (decide (v.1.2.1.toNat < u13.2.2.2.2.1.length)) then
some ((0, ()), (((), ()), (u13.2.2.1, (u13.2.2.2.1, ((u13.2.2.2.2.1.set v.1.2.1.toNat true), (u13.2.2.2.2.2.1, ()))))))
else none
else none))

def sp18 : Abs.Spec := ⟨0, i18, o18, m18⟩

def an18 : Nat → Abs.FAn
  | _ => {}

theorem ok18 : Abs.SpecOK Tryz.prog 18 sp18 :=
  okW (an := an18) (alc ok61 (alc ok51 al0)) rfl (by intro v; kernel_rfl)

/- pagewatch/pagewatchref33.Restart -/
def i80 : Abs.Sg := ⟨[0, 1], Qs37, .nil⟩

def o80 : Abs.Sg := ⟨[4, 5], (.st Qx10 Qs3), (.box 8 (.agg (.dat (.int .i64) (.dat (.int .i64) (.dat (.int .i64) (.dat (.int .i64) (.st (.own Z1 (1, 0)) (.dat (.int .i64) (.st .nil (.st .nil .nil)))))))) .nil) (.arr Z1 false .nil))⟩

def m80 (v : ((Int × Y8 × Unit) × (Unit))) : Option ((Int × Unit) × (Y12 × Y2 × Unit)) :=
(m59 ((v.1.1, (v.1.2.1, ())), ())).bind fun u7 =>
bif (!u7.1.1) then (some ((8, ()), (((0, (0, (0, (0, (0, ()))))), ()), ([], ()))))
else ((m89 ((v.1.2.1, ()), ())).bind fun u8 =>
some ((0, ()), (((u8.2.1.1.1, (u8.2.1.1.2.1, (u8.2.1.1.2.2.1, (0, (u8.2.1.1.2.2.2.2.1, ()))))), ()), (u8.2.2.1, ()))))

def sp80 : Abs.Spec := ⟨0, i80, o80, m80⟩

def an80 : Nat → Abs.FAn
  | _ => {}

theorem ok80 : Abs.SpecOK Tryz.prog 80 sp80 :=
  okW (an := an80) (alc ok59 (alc ok89 al0)) rfl (by intro v; kernel_rfl)

/- pagewatch/pagewatchref34.Restart -/
def i39 : Abs.Sg := ⟨[0, 1], (.dat Z7 Qs3), .nil⟩

def o39 : Abs.Sg := ⟨[4, 5], (.st Qx9 Qs3), Qb2⟩

def m39 (v : Y20) : Option ((Int × Unit) × Y13) :=
(m61 ((v.1.1, (v.1.2.1, ())), ())).bind fun u17 =>
bif ((u17.1.1 : Int) != 0) then (some ((u17.1.1, ()), (((), ()), ([], ([], ([], ([], ())))))))
else (Abs.rowAt v.1.1.2.2.1 v.1.2.1 fun e18 _ =>
bif (!e18) then (some ((9, ()), (((), ()), ([], ([], ([], ([], ())))))))
else ((m51 ((v.1.1, ()), ())).bind fun u19 =>
bif (decide ((0 : Int) ≤ v.1.2.1 ∧ (v.1.2.1 : Int) < u19.2.2.2.2.1.length)) then
bif (decide (v.1.2.1.toNat < u19.2.2.2.2.1.length)) then
bif (decide ((0 : Int) ≤ v.1.2.1 ∧ (v.1.2.1 : Int) < u19.2.2.1.length)) then
(u19.2.2.1[v.1.2.1.toNat]?).bind fun e20 =>
(m80 (((v.1.1.1.length : Int), (e20, ())), ())).bind fun u21 =>
bif (decide ((0 : Int) ≤ v.1.2.1 ∧ (v.1.2.1 : Int) < u19.2.2.1.length)) then
bif (decide (v.1.2.1.toNat < u19.2.2.1.length)) then
some ((0, ()), (((), ()), ((u19.2.2.1.set v.1.2.1.toNat (u21.2.1.1.1, (u21.2.1.1.2.1, (u21.2.1.1.2.2.1, (u21.2.1.1.2.2.2.1, (u21.2.2.1, (u21.2.1.1.2.2.2.2.1, ([], ([], ()))))))))), (u19.2.2.2.1, ((u19.2.2.2.2.1.set v.1.2.1.toNat false), (u19.2.2.2.2.2.1, ()))))))
else none
else none
else none
else none
else none))

def sp39 : Abs.Spec := ⟨0, i39, o39, m39⟩

def an39 : Nat → Abs.FAn
  | _ => {}

theorem ok39 : Abs.SpecOK Tryz.prog 39 sp39 :=
  okW (an := an39) (alc ok61 (alc ok51 (alc ok80 al0))) rfl (by intro v; kernel_rfl)

/- pagewatch/pagewatchref34.Heal -/
def i9 : Abs.Sg := ⟨[0], Qs26, .nil⟩

def o9 : Abs.Sg := ⟨[2], (.st Qx9 .nil), Qb15⟩

def m9 (v : ((Y5 × Unit) × (Unit))) : Option ((Unit) × (((Unit) × Unit) × (List Y8) × (List Y9) × (List Bool) × Unit)) :=
(m15 ((v.1.1, ()), ())).bind fun u7 =>
bif (!u7.1.1) then (some ((), (((), ()), ([], ([], ([], ()))))))
else ((m51 ((v.1.1, ()), ())).bind fun u8 =>
some ((), (((), ()), (u8.2.2.1, (u8.2.2.2.1, (u8.2.2.2.2.1, ()))))))

def sp9 : Abs.Spec := ⟨0, i9, o9, m9⟩

def an9 : Nat → Abs.FAn
  | _ => {}

theorem ok9 : Abs.SpecOK Tryz.prog 9 sp9 :=
  okW (an := an9) (alc ok15 (alc ok51 al0)) rfl (by intro v; kernel_rfl)

/- pagewatch/pagewatchref34.Cut -/
def i19 : Abs.Sg := ⟨[0, 1, 2], (.dat Z7 Qs13), .nil⟩

def o19 : Abs.Sg := ⟨[6, 7], (.st Qx9 Qs3), Qb2⟩

def m19 (v : ((Y5 × Int × Int × Unit) × (Unit))) : Option ((Int × Unit) × Y13) :=
(m61 ((v.1.1, (v.1.2.1, ())), ())).bind fun u24 =>
bif ((u24.1.1 : Int) != 0) then (some ((u24.1.1, ()), (((), ()), ([], ([], ([], ([], ())))))))
else ((m54 ((v.1.2.2.1, (0, ((w64 ((v.1.1.1.length : Int) - 1)), ()))), ())).bind fun u25 =>
bif (!u25.1.1) then (some ((3, ()), (((), ()), ([], ([], ([], ([], ())))))))
else (bif ((v.1.2.1 : Int) == v.1.2.2.1) then (some ((1, ()), (((), ()), ([], ([], ([], ([], ())))))))
else ((m60 ((v.1.1.2.2.2.1, (v.1.2.1, (v.1.2.2.1, ()))), ())).bind fun u26 =>
bif u26.1.1 then (some ((9, ()), (((), ()), ([], ([], ([], ([], ())))))))
else ((m51 ((v.1.1, ()), ())).bind fun u27 =>
let x28 := (if (v.1.2.2.1 : Int) < v.1.2.1 then v.1.2.2.1 else v.1.2.1)
let x29 := (if (v.1.2.2.1 : Int) > v.1.2.1 then v.1.2.2.1 else v.1.2.1)
bif (decide (u27.2.2.2.2.2.1.length + ([(x28, (x29, ()))] : List (Int × Int × Unit)).length ≤ 4294967296)) then
let x30 := (u27.2.2.2.2.2.1 ++ ([(x28, (x29, ()))] : List (Int × Int × Unit)))
some ((0, ()), (((), ()), (u27.2.2.1, (u27.2.2.2.1, (u27.2.2.2.2.1, (x30, ()))))))
else none))))

def sp19 : Abs.Spec := ⟨0, i19, o19, m19⟩

def an19 : Nat → Abs.FAn
  | _ => {}

theorem ok19 : Abs.SpecOK Tryz.prog 19 sp19 :=
  okW (an := an19) (alc ok61 (alc ok54 (alc ok60 (alc ok51 al0)))) rfl (by intro v; kernel_rfl)

/- (*pagewatch/pagewatchmade.Dice).Act -/
def i53 : Abs.Sg := ⟨[0, 1], (.st Qx34 Qs26), (.box 2 Qs27 .nil)⟩

def o53 : Abs.Sg := ⟨[4], (.st Qx23 .nil), (.box 2 Qs27 Qb11)⟩

def m53 (v : ((Y5 × Unit) × (Y18 × Unit))) : Option ((Unit) × (Y18 × (Y5 × Unit) × Unit)) :=
(m17 (((v.1.1.1.length : Int), ()), ((v.2.1.1, ()), ()))).bind fun u78 =>
(((m43 ((v.1.1, ()), ())).bind fun u79 =>
((bif u79.1.2.1 then ((m17 ((3, ()), ((u78.2.1.1, ()), ()))).bind fun u80 =>
some (((decide ((u80.1.1 : Int) > 0)), (u79.1.1, (u78.1.1, ()))), ((u80.2.1.1, ()), (((), ()), ((v.1.1, ()), ())))))
else (some ((false, (u79.1.1, (u78.1.1, ()))), ((u78.2.1.1, ()), (((), ()), ((v.1.1, ()), ())))))) : Option ((Bool × Int × Int × Unit) × (Y18 × ((Unit) × Unit) × (Y5 × Unit) × Unit))).bind fun v81 =>
bif v81.1.1 then (some ((v81.1.2.1, ()), ((v81.2.1.1, ()), (((), ()), ((v81.2.2.2.1.1, ()), ())))))
else (some ((v81.1.2.2.1, ()), ((v81.2.1.1, ()), (((), ()), ((v81.2.2.2.1.1, ()), ())))))) : Option ((Int × Unit) × (Y18 × ((Unit) × Unit) × (Y5 × Unit) × Unit))).bind fun v82 =>
(m17 (((v82.2.2.2.1.1.2.1.length : Int), ()), ((v82.2.1.1, ()), ()))).bind fun u83 =>
(((m17 ((2, ()), ((u83.2.1.1, ()), ()))).bind fun u84 =>
bif ((u84.1.1 : Int) == 0) then (some ((v82.1.1, (0, ())), ((u84.2.1.1, ()), (((), ()), ((v82.2.2.2.1.1, ()), ())))))
else (some ((v82.1.1, (u83.1.1, ())), ((u84.2.1.1, ()), (((), ()), ((v82.2.2.2.1.1, ()), ())))))) : Option ((Int × Int × Unit) × (Y18 × ((Unit) × Unit) × (Y5 × Unit) × Unit))).bind fun v85 =>
(((m17 ((16, ()), ((v85.2.1.1, ()), ()))).bind fun u86 =>
bif ((u86.1.1 : Int) == 0) then ((m29 ((v85.2.2.2.1.1, (v85.1.1, ())), ())).bind fun u87 =>
some ((u87.1.1, ()), ((u86.2.1.1, ()), (((), ()), ((v85.2.2.2.1.1, ()), (((u87.2.2.1, (u87.2.2.2.1, (u87.2.2.2.2.1, (u87.2.2.2.2.2.1, ())))), ()), ()))))))
else (((bif ((u86.1.1 : Int) == 1) then (some ((((u86.1.1 : Int) == 1), (v85.1.1, (v85.1.2.1, (0, (u86.1.1, ()))))), ((u86.2.1.1, ()), (((), ()), ((v85.2.2.2.1.1, ()), ((v85.2.2.2.1.1, ()), ()))))))
else (some ((((u86.1.1 : Int) == 2), (v85.1.1, (v85.1.2.1, (0, (u86.1.1, ()))))), ((u86.2.1.1, ()), (((), ()), ((v85.2.2.2.1.1, ()), ((v85.2.2.2.1.1, ()), ()))))))) : Option ((Bool × Int × Int × Int × Int × Unit) × (Y18 × ((Unit) × Unit) × (Y5 × Unit) × (Y5 × Unit) × Unit))).bind fun v88 =>
bif v88.1.1 then ((m17 ((60, ()), ((v88.2.1.1, ()), ()))).bind fun u89 =>
(m31 ((v88.2.2.2.1.1, (v88.1.2.1, (((w64 (1 + u89.1.1)), (2, (0, (0, (0, (0, (0, (0, (0, ((0, (0, (0, (0, (0, (0, ())))))), ((0, (0, (0, (0, (0, ()))))), ()))))))))))), ()))), ())).bind fun u90 =>
some ((u90.1.1, ()), ((u89.2.1.1, ()), (((), ()), ((v88.2.2.2.1.1, ()), (((u90.2.2.1, (u90.2.2.2.1, (u90.2.2.2.2.1, (u90.2.2.2.2.2.1, ())))), ()), ()))))))
else (((bif ((v88.1.2.2.2.2.1 : Int) == 3) then (some ((((v88.1.2.2.2.2.1 : Int) == 3), (v88.1.2.1, (v88.1.2.2.1, (v88.1.2.2.2.1, (v88.1.2.2.2.2.1, ()))))), ((v88.2.1.1, ()), (((), ()), ((v88.2.2.2.1.1, ()), ((v88.2.2.2.2.1.1, ()), ()))))))
else (some ((((v88.1.2.2.2.2.1 : Int) == 4), (v88.1.2.1, (v88.1.2.2.1, (v88.1.2.2.2.1, (v88.1.2.2.2.2.1, ()))))), ((v88.2.1.1, ()), (((), ()), ((v88.2.2.2.1.1, ()), ((v88.2.2.2.2.1.1, ()), ()))))))) : Option ((Bool × Int × Int × Int × Int × Unit) × (Y18 × ((Unit) × Unit) × (Y5 × Unit) × (Y5 × Unit) × Unit))).bind fun v91 =>
bif v91.1.1 then ((m33 ((v91.2.2.2.1.1, (v91.1.2.1, ())), ())).bind fun u92 =>
some ((u92.1.1, ()), ((v91.2.1.1, ()), (((), ()), ((v91.2.2.2.1.1, ()), (((u92.2.2.1, (u92.2.2.2.1, (u92.2.2.2.2.1, (u92.2.2.2.2.2.1, ())))), ()), ()))))))
else (((bif ((v91.1.2.2.2.2.1 : Int) == 5) then (some ((((v91.1.2.2.2.2.1 : Int) == 5), (v91.1.2.2.1, (v91.1.2.1, (v91.1.2.2.2.1, (v91.1.2.2.2.2.1, ()))))), ((v91.2.1.1, ()), (((), ()), ((v91.2.2.2.1.1, ()), ((v91.2.2.2.2.1.1, ()), ()))))))
else (bif ((v91.1.2.2.2.2.1 : Int) == 6) then (some ((((v91.1.2.2.2.2.1 : Int) == 6), (v91.1.2.2.1, (v91.1.2.1, (v91.1.2.2.2.1, (v91.1.2.2.2.2.1, ()))))), ((v91.2.1.1, ()), (((), ()), ((v91.2.2.2.1.1, ()), ((v91.2.2.2.2.1.1, ()), ()))))))
else (bif ((v91.1.2.2.2.2.1 : Int) == 7) then (some ((((v91.1.2.2.2.2.1 : Int) == 7), (v91.1.2.2.1, (v91.1.2.1, (v91.1.2.2.2.1, (v91.1.2.2.2.2.1, ()))))), ((v91.2.1.1, ()), (((), ()), ((v91.2.2.2.1.1, ()), ((v91.2.2.2.2.1.1, ()), ()))))))
else (bif ((v91.1.2.2.2.2.1 : Int) == 8) then (some ((((v91.1.2.2.2.2.1 : Int) == 8), (v91.1.2.2.1, (v91.1.2.1, (v91.1.2.2.2.1, (v91.1.2.2.2.2.1, ()))))), ((v91.2.1.1, ()), (((), ()), ((v91.2.2.2.1.1, ()), ((v91.2.2.2.2.1.1, ()), ()))))))
else (bif ((v91.1.2.2.2.2.1 : Int) == 9) then (some ((((v91.1.2.2.2.2.1 : Int) == 9), (v91.1.2.2.1, (v91.1.2.1, (v91.1.2.2.2.1, (v91.1.2.2.2.2.1, ()))))), ((v91.2.1.1, ()), (((), ()), ((v91.2.2.2.1.1, ()), ((v91.2.2.2.2.1.1, ()), ()))))))
else (some ((((v91.1.2.2.2.2.1 : Int) == 10), (v91.1.2.2.1, (v91.1.2.1, (v91.1.2.2.2.1, (v91.1.2.2.2.2.1, ()))))), ((v91.2.1.1, ()), (((), ()), ((v91.2.2.2.1.1, ()), ((v91.2.2.2.2.1.1, ()), ()))))))))))) : Option ((Bool × Int × Int × Int × Int × Unit) × (Y18 × ((Unit) × Unit) × (Y5 × Unit) × (Y5 × Unit) × Unit))).bind fun v93 =>
bif v93.1.1 then ((m34 ((v93.2.2.2.1.1, (v93.1.2.1, ())), ())).bind fun u94 =>
some ((u94.1.1, ()), ((v93.2.1.1, ()), (((), ()), ((v93.2.2.2.1.1, ()), (((u94.2.2.1, (u94.2.1.1.1, (u94.2.2.2.1, (u94.2.2.2.2.1, ())))), ()), ()))))))
else (bif ((v93.1.2.2.2.2.1 : Int) == 11) then ((m35 ((v93.2.2.2.1.1, (v93.1.2.1, ())), ())).bind fun u95 =>
some ((u95.1.1, ()), ((v93.2.1.1, ()), (((), ()), ((v93.2.2.2.1.1, ()), (((u95.2.2.1, (u95.2.1.1.1, (u95.2.2.2.1, (u95.2.2.2.2.1, ())))), ()), ()))))))
else (bif ((v93.1.2.2.2.2.1 : Int) == 12) then ((m36 ((v93.2.2.2.1.1, (v93.1.2.1, ())), ())).bind fun u96 =>
some ((u96.1.1, ()), ((v93.2.1.1, ()), (((), ()), ((v93.2.2.2.1.1, ()), (((u96.2.2.1, (u96.2.2.2.1, (u96.2.2.2.2.1, (u96.2.2.2.2.2.1, ())))), ()), ()))))))
else (bif ((v93.1.2.2.2.2.1 : Int) == 13) then ((m18 ((v93.2.2.2.1.1, (v93.1.2.2.1, ())), ())).bind fun u97 =>
some ((u97.1.1, ()), ((v93.2.1.1, ()), (((), ()), ((v93.2.2.2.1.1, ()), (((u97.2.2.1, (u97.2.2.2.1, (u97.2.2.2.2.1, (u97.2.2.2.2.2.1, ())))), ()), ()))))))
else (bif ((v93.1.2.2.2.2.1 : Int) == 14) then ((m17 (((v93.2.2.2.1.1.1.length : Int), ()), ((v93.2.1.1, ()), ()))).bind fun u98 =>
(m39 ((v93.2.2.2.1.1, (u98.1.1, ())), ())).bind fun u99 =>
some ((u99.1.1, ()), ((u98.2.1.1, ()), (((), ()), ((v93.2.2.2.1.1, ()), (((u99.2.2.1, (u99.2.2.2.1, (u99.2.2.2.2.1, (u99.2.2.2.2.2.1, ())))), ()), ()))))))
else (bif ((v93.1.2.2.2.2.1 : Int) == 15) then ((m9 ((v93.2.2.2.1.1, ()), ())).bind fun u100 =>
(m17 ((2, ()), ((v93.2.1.1, ()), ()))).bind fun u101 =>
bif ((u101.1.1 : Int) == 0) then ((m17 (((v93.2.2.2.1.1.1.length : Int), ()), ((u101.2.1.1, ()), ()))).bind fun u102 =>
(m19 ((v93.2.2.2.1.1, (v93.1.2.2.1, (u102.1.1, ()))), ())).bind fun u103 =>
some ((u103.1.1, ()), ((u102.2.1.1, ()), (((), ()), ((v93.2.2.2.1.1, ()), (((u103.2.2.1, (u103.2.2.2.1, (u103.2.2.2.2.1, (u103.2.2.2.2.2.1, ())))), ()), ()))))))
else (some ((v93.1.2.2.2.1, ()), ((u101.2.1.1, ()), (((), ()), ((v93.2.2.2.1.1, ()), (((u100.2.2.1, (u100.2.2.2.1, (u100.2.2.2.2.1, ([], ())))), ()), ())))))))
else (some ((v93.1.2.2.2.1, ()), ((v93.2.1.1, ()), (((), ()), ((v93.2.2.2.1.1, ()), ((v93.2.2.2.2.1.1, ()), ()))))))))))))))) : Option ((Int × Unit) × (Y18 × ((Unit) × Unit) × (Y5 × Unit) × (Y5 × Unit) × Unit))).bind fun v104 =>
bif ((v104.1.1 : Int) != 0) then (some ((), ((v104.2.1.1, ()), ((v104.2.2.2.1.1, ()), ()))))
else (some ((), ((v104.2.1.1, ()), ((v104.2.2.2.2.1.1, ()), ()))))

def sp53 : Abs.Spec := ⟨1, i53, o53, m53⟩

def an53 : Nat → Abs.FAn
  | 0 => Abs.FAn.mk (fun
    | 3 => some ⟨[26, 4, 3, 0, 6, 5], (.dat .bool (.st Qx23 (.st Qx33 (.st Qx34 Qs13)))), (.box 2 Qs27 (.box 4 Qs7 Qb11))⟩
    | _ => none) (fun
    | 37 => some (⟨[4, 3, 9, 10], (.st Qx23 (.st Qx33 (.st (.ptr (3, 0) 4 0 0) Qs3))), (.box 2 Qs27 (.box 4 Qs7 (.box 4 Qs26 Qb11)))⟩, none)
    | 24 => some (⟨[69, 4, 3, 9, 8, 5, 0, 10, 38], (.dat .bool (.st Qx23 (.st Qx33 (.st (.ptr (3, 0) 4 0 0) (.dat (.int .i64) (.dat (.int .i64) (.st Qx34 Qs13))))))), (.box 2 Qs27 (.box 4 Qs7 (.box 4 Qs26 Qb11)))⟩, none)
    | 17 => some (⟨[60, 4, 3, 9, 5, 8, 0, 10, 38], (.dat .bool (.st Qx23 (.st Qx33 (.st (.ptr (3, 0) 4 0 0) (.dat (.int .i64) (.dat (.int .i64) (.st Qx34 Qs13))))))), (.box 2 Qs27 (.box 4 Qs7 (.box 4 Qs26 Qb11)))⟩, none)
    | 14 => some (⟨[47, 4, 3, 9, 0, 5, 8, 10, 38], (.dat .bool (.st Qx23 (.st Qx33 (.st (.ptr (3, 0) 4 0 0) (.st Qx34 Qs29))))), (.box 2 Qs27 (.box 4 Qs7 (.box 4 Qs26 Qb11)))⟩, none)
    | 8 => some (⟨[4, 3, 5, 0, 8], (.st Qx23 (.st Qx33 (.dat (.int .i64) (.st Qx34 Qs3)))), (.box 2 Qs27 (.box 4 Qs7 Qb11))⟩, none)
    | 5 => some (⟨[4, 3, 5, 0], (.st Qx23 (.st Qx33 (.dat (.int .i64) (.st Qx34 .nil)))), (.box 2 Qs27 (.box 4 Qs7 Qb11))⟩, none)
    | _ => none) (fun _ => none) (fun _ _ => 0)
  | _ => {}

theorem ok53 : Abs.SpecOK Tryz.prog 53 sp53 :=
  okW (an := an53) (alc ok17 (alc ok43 (alc ok29 (alc ok31 (alc ok33 (alc ok34 (alc ok35 (alc ok36 (alc ok18 (alc ok39 (alc ok9 (alc ok19 al0)))))))))))) rfl (by intro v; kernel_rfl)

def l10_0_5 (v : ((Int × Unit) × (Y18 × (Y5 × Unit) × ((Unit) × Unit) × Unit))) : Option (((Int × Unit) × (Y18 × (Y5 × Unit) × ((Unit) × Unit) × Unit)) ⊕ ((Unit) × (Y18 × ((Unit) × Unit) × (Y5 × Unit) × Unit))) :=
bif (decide ((v.1.1 : Int) > 0)) then ((m53 ((v.2.2.1.1, ()), ((v.2.1.1, ()), ()))).bind fun u37 =>
some (.inl (((w64 (v.1.1 - 1)), ()), ((u37.2.1.1, ()), ((u37.2.2.1.1, ()), (((), ()), ()))))))
else (some (.inr ((), ((v.2.1.1, ()), (((), ()), ((v.2.2.1.1, ()), ()))))))

/- (*pagewatch/pagewatchmade.Dice).Cluster -/
def i10 : Abs.Sg := ⟨[0, 1], (.st Qx34 Qs3), (.box 2 Qs27 .nil)⟩

def o10 : Abs.Sg := ⟨[4], (.st Qx23 .nil), (.box 2 Qs27 Qb11)⟩

def m10 (v : ((Int × Unit) × (Y18 × Unit))) : Option ((Unit) × (Y18 × (Y5 × Unit) × Unit)) :=
(m52 (([3, 3, 2, 5, 1], ()), ((v.2.1.1, ()), ()))).bind fun u30 =>
(m50 ((u30.1.1, ()), ())).bind fun u31 =>
(((m17 ((2, ()), ((u30.2.1.1, ()), ()))).bind fun u32 =>
bif ((u32.1.1 : Int) == 0) then ((m17 ((((u31.2.2.1.length : Nat) : Int), ()), ((u32.2.1.1, ()), ()))).bind fun u33 =>
(m41 (((u31.2.2.1, ([], (u31.2.2.2.1, ([], ())))), (u33.1.1, ())), ())).bind fun u34 =>
some ((v.1.1, ()), ((u33.2.1.1, ()), ((u34.2.1.1, ()), (((), ()), ())))))
else (some ((v.1.1, ()), ((u32.2.1.1, ()), (((u31.2.2.1, ([], (u31.2.2.2.1, ([], ())))), ()), (((), ()), ())))))) : Option ((Int × Unit) × (Y18 × (Y5 × Unit) × ((Unit) × Unit) × Unit))).bind fun v35 =>
(m17 (((w64 (v35.1.1 + 1)), ()), ((v35.2.1.1, ()), ()))).bind fun u36 =>
(loopT l10_0_5 ((u36.1.1, ()), ((u36.2.1.1, ()), ((v35.2.2.1.1, ()), (((), ()), ()))))).bind fun d38 =>
some ((), ((d38.2.1.1, ()), ((d38.2.2.2.1.1, ()), ())))

def sp10 : Abs.Spec := ⟨1, i10, o10, m10⟩

def an10 : Nat → Abs.FAn
  | 0 => Abs.FAn.mk (fun _ => none) (fun
    | 4 => some (⟨[5, 0, 4, 1], (.st Qx23 (.st Qx34 (.st Qx33 Qs3))), (.box 2 Qs27 (.box 4 Qs26 (.box 4 Qs7 .nil)))⟩, none)
    | _ => none) (fun
    | 5 => some ⟨⟨[7, 5, 0, 4], (.dat (.int .i64) (.st Qx23 (.st Qx34 (.st Qx33 .nil)))), (.box 2 Qs27 (.box 4 Qs26 (.box 4 Qs7 .nil)))⟩, (.one (.exit 0) ⟨[4, 5], (.st Qx23 (.st Qx33 .nil)), (.box 2 Qs27 (.box 4 Qs7 Qb11))⟩)⟩
    | _ => none) (fun _ _ => 0)
  | _ => {}

theorem ok10 : Abs.SpecOK Tryz.prog 10 sp10 :=
  okW (an := an10) (alc ok52 (alc ok50 (alc ok17 (alc ok41 (alc ok53 al0))))) rfl (by intro v; kernel_rfl)

def l16_0_4 (v : ((Int × Y2 × Y2 × Unit) × (Unit))) : Option (((Int × Y2 × Y2 × Unit) × (Unit)) ⊕ (Y15 ⊕ ((Unit) × (Unit)))) :=
let x35 := (decide ((v.1.1 : Int) < (v.1.2.2.1.length : Int)))
bif x35 then (Abs.rowAt v.1.2.2.1 v.1.1 fun e36 _ =>
Abs.rowAt v.1.2.1 v.1.1 fun e37 _ =>
let x38 := (!(((e36.1 : Int) == e37.1) && ((((e36.2.1.1 : Int) == e37.2.1.1) && (((e36.2.1.2.1 : Int) == e37.2.1.2.1) && (((e36.2.1.2.2.1 : Int) == e37.2.1.2.2.1) && (((e36.2.1.2.2.2.1 : Int) == e37.2.1.2.2.2.1) && (((e36.2.1.2.2.2.2.1 : Int) == e37.2.1.2.2.2.2.1) && (((e36.2.1.2.2.2.2.2.1 : Int) == e37.2.1.2.2.2.2.2.1) && (((e36.2.1.2.2.2.2.2.2.1 : Int) == e37.2.1.2.2.2.2.2.2.1) && (((e36.2.1.2.2.2.2.2.2.2.1 : Int) == e37.2.1.2.2.2.2.2.2.2.1) && (((e36.2.1.2.2.2.2.2.2.2.2.1 : Int) == e37.2.1.2.2.2.2.2.2.2.2.1) && ((((e36.2.1.2.2.2.2.2.2.2.2.2.1.1 : Int) == e37.2.1.2.2.2.2.2.2.2.2.2.1.1) && (((e36.2.1.2.2.2.2.2.2.2.2.2.1.2.1 : Int) == e37.2.1.2.2.2.2.2.2.2.2.2.1.2.1) && (((e36.2.1.2.2.2.2.2.2.2.2.2.1.2.2.1 : Int) == e37.2.1.2.2.2.2.2.2.2.2.2.1.2.2.1) && (((e36.2.1.2.2.2.2.2.2.2.2.2.1.2.2.2.1 : Int) == e37.2.1.2.2.2.2.2.2.2.2.2.1.2.2.2.1) && (((e36.2.1.2.2.2.2.2.2.2.2.2.1.2.2.2.2.1 : Int) == e37.2.1.2.2.2.2.2.2.2.2.2.1.2.2.2.2.1) && (((e36.2.1.2.2.2.2.2.2.2.2.2.1.2.2.2.2.2.1 : Int) == e37.2.1.2.2.2.2.2.2.2.2.2.1.2.2.2.2.2.1) && true)))))) && ((((e36.2.1.2.2.2.2.2.2.2.2.2.2.1.1 : Int) == e37.2.1.2.2.2.2.2.2.2.2.2.2.1.1) && (((e36.2.1.2.2.2.2.2.2.2.2.2.2.1.2.1 : Int) == e37.2.1.2.2.2.2.2.2.2.2.2.2.1.2.1) && (((e36.2.1.2.2.2.2.2.2.2.2.2.2.1.2.2.1 : Int) == e37.2.1.2.2.2.2.2.2.2.2.2.2.1.2.2.1) && (((e36.2.1.2.2.2.2.2.2.2.2.2.2.1.2.2.2.1 : Int) == e37.2.1.2.2.2.2.2.2.2.2.2.2.1.2.2.2.1) && (((e36.2.1.2.2.2.2.2.2.2.2.2.2.1.2.2.2.2.1 : Int) == e37.2.1.2.2.2.2.2.2.2.2.2.2.1.2.2.2.2.1) && true))))) && true))))))))))) && true)))
bif x38 then (some (.inr (.inl ((false, ()), ()))))
else (some (.inl (((w64 (v.1.1 + 1)), (v.1.2.1, (v.1.2.2.1, ()))), ()))))
else (some (.inr (.inr ((), ()))))

/- pagewatch/pagewatchref32.SameLog -/
def i16 : Abs.Sg := ⟨[0, 1], (.dat (.row Z1) (.dat (.row Z1) .nil)), .nil⟩

def o16 : Abs.Sg := ⟨[4], Qs12, .nil⟩

def m16 (v : ((Y2 × Y2 × Unit) × (Unit))) : Option Y15 :=
let x34 := (((v.1.1.length : Int) : Int) != (v.1.2.1.length : Int))
bif x34 then (some ((false, ()), ()))
else ((loopT l16_0_4 ((0, (v.1.2.1, (v.1.1, ()))), ())).bind fun d39 =>
sumE d39 (fun d40 => (some ((d40.1.1, ()), ()))) (fun d41 => (some ((true, ()), ()))))

def sp16 : Abs.Spec := ⟨0, i16, o16, m16⟩

def an16 : Nat → Abs.FAn
  | 0 => Abs.FAn.mk (fun _ => none) (fun _ => none) (fun
    | 4 => some ⟨⟨[5, 1, 0], (.dat (.int .i64) (.dat (.row Z1) (.dat (.row Z1) .nil))), .nil⟩, (.more .ret ⟨[4], Qs12, .nil⟩ (.one (.exit 0) ⟨[], .nil, .nil⟩))⟩
    | _ => none) (fun _ _ => 0)
  | _ => {}

theorem ok16 : Abs.SpecOK Tryz.prog 16 sp16 :=
  okW (an := an16) al0 rfl (by intro v; kernel_rfl)

def l3_0_8 (v : ((Int × Int × Int × Int × Unit) × (((Unit) × Unit) × (List Y8) × (List Y9) × (List Bool) × Unit))) : Option (((Int × Int × Int × Int × Unit) × (((Unit) × Unit) × (List Y8) × (List Y9) × (List Bool) × Unit)) ⊕ ((Int × Int × Int × Unit) × (((Unit) × Unit) × (List Y8) × (List Y9) × (List Bool) × Unit))) :=
bif (decide ((v.1.1 : Int) < v.1.2.2.2.1)) then (((bif (decide ((0 : Int) ≤ v.1.1 ∧ (v.1.1 : Int) < v.2.2.2.2.1.length)) then
(v.2.2.2.2.1[v.1.1.toNat]?).bind fun e127 =>
bif e127 then (some ((v.1.2.1, (v.1.2.2.1, (v.1.2.2.2.1, (v.1.1, ())))), (((), ()), (v.2.2.1, (v.2.2.2.1, (v.2.2.2.2.1, ()))))))
else (bif (decide ((0 : Int) ≤ v.1.1 ∧ (v.1.1 : Int) < v.2.2.1.length)) then
(v.2.2.1[v.1.1.toNat]?).bind fun e128 =>
((bif (decide ((v.1.2.1 : Int) < 0)) then (some ((true, ((w64 (v.1.2.2.1 + 1)), (v.1.2.2.2.1, (v.1.1, (v.1.2.1, ()))))), (((), ()), (v.2.2.1, (v.2.2.2.1, (v.2.2.2.2.1, ()))))))
else (bif (decide ((0 : Int) ≤ v.1.2.1 ∧ (v.1.2.1 : Int) < v.2.2.1.length)) then
(v.2.2.1[v.1.2.1.toNat]?).bind fun e129 =>
(m12 ((e128, ()), ())).bind fun u130 =>
(m11 ((e129, ((e128.2.2.2.2.1.length : Int), (u130.1.1, ()))), ())).bind fun u131 =>
some ((u131.1.1, ((w64 (v.1.2.2.1 + 1)), (v.1.2.2.2.1, (v.1.1, (v.1.2.1, ()))))), (((), ()), (v.2.2.1, (v.2.2.2.1, (v.2.2.2.2.1, ())))))
else none)) : Option ((Bool × Int × Int × Int × Int × Unit) × (((Unit) × Unit) × (List Y8) × (List Y9) × (List Bool) × Unit))).bind fun v132 =>
bif v132.1.1 then (some ((v132.1.2.2.2.1, (v132.1.2.1, (v132.1.2.2.1, (v132.1.2.2.2.1, ())))), (((), ()), (v132.2.2.1, (v132.2.2.2.1, (v132.2.2.2.2.1, ()))))))
else (some ((v132.1.2.2.2.2.1, (v132.1.2.1, (v132.1.2.2.1, (v132.1.2.2.2.1, ())))), (((), ()), (v132.2.2.1, (v132.2.2.2.1, (v132.2.2.2.2.1, ()))))))
else none)
else none) : Option ((Int × Int × Int × Int × Unit) × (((Unit) × Unit) × (List Y8) × (List Y9) × (List Bool) × Unit))).bind fun v133 =>
some (.inl (((w64 (v133.1.2.2.2.1 + 1)), (v133.1.1, (v133.1.2.1, (v133.1.2.2.1, ())))), (((), ()), (v133.2.2.1, (v133.2.2.2.1, (v133.2.2.2.2.1, ())))))))
else (some (.inr ((v.1.2.1, (v.1.2.2.2.1, (v.1.2.2.1, ()))), (((), ()), (v.2.2.1, (v.2.2.2.1, (v.2.2.2.2.1, ())))))))

def l3_0_22 (v : ((Int × Int × Int × Unit) × Y13)) : Option (((Int × Int × Int × Unit) × Y13) ⊕ (Y15 ⊕ ((Unit) × Y13))) :=
bif (decide ((v.1.1 : Int) < v.1.2.2.1)) then (((bif (decide ((0 : Int) ≤ v.1.1 ∧ (v.1.1 : Int) < v.2.2.2.2.1.length)) then
(v.2.2.2.2.1[v.1.1.toNat]?).bind fun e142 =>
bif (!e142) then (bif (decide ((0 : Int) ≤ v.1.1 ∧ (v.1.1 : Int) < v.2.2.1.length)) then
(v.2.2.1[v.1.1.toNat]?).bind fun e143 =>
bif (decide ((0 : Int) ≤ v.1.2.1 ∧ (v.1.2.1 : Int) < v.2.2.1.length)) then
(v.2.2.1[v.1.2.1.toNat]?).bind fun e144 =>
(m16 ((e143.2.2.2.2.1, (e144.2.2.2.2.1, ())), ())).bind fun u145 =>
some (((!u145.1.1), (v.1.2.1, (v.1.2.2.1, (v.1.1, ())))), (((), ()), (v.2.2.1, (v.2.2.2.1, (v.2.2.2.2.1, (v.2.2.2.2.2.1, ()))))))
else none
else none)
else (some ((false, (v.1.2.1, (v.1.2.2.1, (v.1.1, ())))), (((), ()), (v.2.2.1, (v.2.2.2.1, (v.2.2.2.2.1, (v.2.2.2.2.2.1, ())))))))
else none) : Option ((Bool × Int × Int × Int × Unit) × Y13)).bind fun v146 =>
bif v146.1.1 then (some (.inr (.inl ((false, ()), ()))))
else (some (.inl (((w64 (v146.1.2.2.2.1 + 1)), (v146.1.2.1, (v146.1.2.2.1, ()))), (((), ()), (v146.2.2.1, (v146.2.2.2.1, (v146.2.2.2.2.1, (v146.2.2.2.2.2.1, ())))))))))
else (some (.inr (.inr ((), (((), ()), (v.2.2.1, (v.2.2.2.1, (v.2.2.2.2.1, (v.2.2.2.2.2.1, ())))))))))

/- pagewatch/pagewatchlaw34.RegionSettles -/
def i3 : Abs.Sg := ⟨[0], Qs42, .nil⟩

def o3 : Abs.Sg := ⟨[2], Qs12, .nil⟩

def m3 (v : (((List Int) × Unit) × (Unit))) : Option Y15 :=
(m6 ((v.1.1, ()), ())).bind fun u122 =>
bif (!u122.1.1) then ((m7 ((), ())).bind fun u123 =>
some ((u123.1.1, ()), ()))
else ((m8 ((v.1.1, ()), ())).bind fun u124 =>
(m10 ((20, ()), ((u124.2.1.1, ()), ()))).bind fun u125 =>
(m9 ((u125.2.2.1.1, ()), ())).bind fun u126 =>
(loopT l3_0_8 ((0, ((-1), (0, (((u126.2.2.1.length : Nat) : Int), ())))), (((), ()), (u126.2.2.1, (u126.2.2.2.1, (u126.2.2.2.2.1, ())))))).bind fun d134 =>
(m13 ((d134.1.2.1, ()), ())).bind fun u135 =>
bif (decide ((d134.1.2.2.1 : Int) < u135.1.1)) then ((m7 ((), ())).bind fun u136 =>
some ((u136.1.1, ()), ()))
else ((m14 (((d134.2.2.1, (d134.2.2.2.1, (d134.2.2.2.2.1, ([], ())))), (d134.1.1, ())), ())).bind fun u137 =>
(m14 (((u137.2.2.1, (u137.2.2.2.1, (u137.2.2.2.2.1, (u137.2.2.2.2.2.1, ())))), (d134.1.1, ())), ())).bind fun u138 =>
((bif ((u137.1.1 : Int) != 0) then (some ((true, (d134.1.1, (d134.1.2.1, ()))), (((), ()), (u138.2.2.1, (u138.2.2.2.1, (u138.2.2.2.2.1, (u138.2.2.2.2.2.1, ())))))))
else (bif ((u138.1.1 : Int) != 0) then (some ((true, (d134.1.1, (d134.1.2.1, ()))), (((), ()), (u138.2.2.1, (u138.2.2.2.1, (u138.2.2.2.2.1, (u138.2.2.2.2.2.1, ())))))))
else ((m15 (((u138.2.2.1, (u138.2.2.2.1, (u138.2.2.2.2.1, (u138.2.2.2.2.2.1, ())))), ()), ())).bind fun u139 =>
bif (!u139.1.1) then (some ((true, (d134.1.1, (d134.1.2.1, ()))), (((), ()), (u138.2.2.1, (u138.2.2.2.1, (u138.2.2.2.2.1, (u138.2.2.2.2.2.1, ())))))))
else (bif (decide ((0 : Int) ≤ d134.1.1 ∧ (d134.1.1 : Int) < u138.2.2.1.length)) then
(u138.2.2.1[d134.1.1.toNat]?).bind fun e140 =>
some ((((e140.2.2.2.1 : Int) != 2), (d134.1.1, (d134.1.2.1, ()))), (((), ()), (u138.2.2.1, (u138.2.2.2.1, (u138.2.2.2.2.1, (u138.2.2.2.2.2.1, ()))))))
else none)))) : Option ((Bool × Int × Int × Unit) × Y13)).bind fun v141 =>
bif v141.1.1 then (some ((false, ()), ()))
else ((loopT l3_0_22 ((0, (v141.1.2.1, (v141.1.2.2.1, ()))), (((), ()), (v141.2.2.1, (v141.2.2.2.1, (v141.2.2.2.2.1, (v141.2.2.2.2.2.1, ()))))))).bind fun d147 =>
sumE d147 (fun d148 => (some ((d148.1.1, ()), ()))) (fun d149 => (((let x150 := ((((d149.2.2.2.1.length : Nat) : Int) : Int) == 0)
bif x150 then ((m7 ((), ())).bind fun u151 =>
some ((u151.1.1, ()), ()))
else (some ((false, ()), ()))) : Option Y15).bind fun v152 =>
some ((v152.1.1, ()), ()))))))

def sp3 : Abs.Spec := ⟨0, i3, o3, m3⟩

def an3 : Nat → Abs.FAn
  | 0 => Abs.FAn.mk (fun
    | 26 => some ⟨[2], Qs12, .nil⟩
    | 24 => some ⟨[123, 6, 12, 5, 14], (.dat .bool (.dat (.int .i64) (.st Qx9 Qs13))), Qb2⟩
    | 19 => some ⟨[96, 6, 12, 5], (.dat .bool (.dat (.int .i64) (.st Qx9 Qs3))), Qb2⟩
    | 13 => some ⟨[58, 4, 7, 5, 8, 6], (.dat .bool (.st Qx9 Qs29)), Qb15⟩
    | _ => none) (fun
    | 9 => some (⟨[6, 4, 7, 5, 8], (.dat (.int .i64) (.st Qx9 (.dat (.int .i64) Qs13))), Qb15⟩, none)
    | _ => none) (fun
    | 22 => some ⟨⟨[14, 6, 12, 5], (.dat (.int .i64) (.dat (.int .i64) (.st Qx9 Qs3))), Qb2⟩, (.more .ret ⟨[2], Qs12, .nil⟩ (.one (.exit 2) ⟨[12], (.st Qx9 .nil), Qb2⟩))⟩
    | 8 => some ⟨⟨[8, 6, 4, 7, 5], (.dat (.int .i64) (.dat (.int .i64) (.st Qx9 Qs13))), Qb15⟩, (.one (.exit 0) ⟨[6, 5, 4, 7], (.dat (.int .i64) (.dat (.int .i64) (.st Qx9 Qs3))), Qb15⟩)⟩
    | _ => none) (fun _ _ => 0)
  | _ => {}

theorem ok3 : Abs.SpecOK Tryz.prog 3 sp3 :=
  okW (an := an3) (alc ok6 (alc ok7 (alc ok8 (alc ok10 (alc ok9 (alc ok12 (alc ok11 (alc ok13 (alc ok14 (alc ok15 (alc ok16 al0))))))))))) rfl (by intro v; kernel_rfl)

def o4 : Abs.Sg := ⟨[2], Qs12, .nil⟩

/- 27 pagewatch/pagewatchlaw34.RegionSteps$1$1: not told by a law: a closure -/

/- 26 pagewatch/pagewatchlaw34.RegionSteps$1: not told by a law: run where it is called -/

def o5 : Abs.Sg := ⟨[10], Qs12, .nil⟩

end
end Go.Proofs.YtfbikpbejkgegaaGreat

namespace Go.Proofs.YtfbikpbejkgegaaGreat
open Go Go.Abs Go.Raft
abbrev OpT : Type := Int × Int × Int × Int × Int × Int × Int × Int × Int × (Int × Int × Int × Int × Int × Int × Unit) × (Int × Int × Int × Int × Int × Unit) × Unit

abbrev RT : Type := Rep OpT

abbrev MT : Type := Msg OpT

/-- What joins and conditions need. -/
theorem sS : (∀ h : Decidable True, @decide True h = true) ∧ (∀ h : Decidable False, @decide False h = false) ∧ (∀ {α : Type} (a b : α), cond true a b = a) ∧ (∀ {α : Type} (a b : α), cond false a b = b) ∧ (∀ {α β : Type} (a : α) (f : α → Option β), (some a).bind f = f a) ∧ (!true) = false ∧ (!false) = true ∧ (∀ b : Bool, (true && b) = b) ∧ (∀ b : Bool, (b && true) = b) ∧ (∀ b : Bool, (false && b) = false) ∧ (∀ b : Bool, (b && false) = false) ∧ (∀ {α : Type} [BEq α] [LawfulBEq α] (a : α), (a == a) = true) ∧ (∀ {α : Type} [BEq α] [LawfulBEq α] (a : α), (a != a) = false) :=
  ⟨fun _ => decide_true _, fun _ => decide_false _, fun _ _ => rfl, fun _ _ => rfl, fun _ _ => rfl, rfl, rfl, Bool.true_and, Bool.and_true, Bool.false_and, Bool.and_false, fun _ => beq_self_eq_true _, fun _ => bne_self_eq_false _⟩

/-- An element of a row, without the proof that it is one. -/
def rowG {A B : Type} (l : List A) (n : Int) (F : A → Option B) : Option B := bif decide (0 ≤ n) then (l[n.toNat]?).bind F else none

theorem rowAt_G {A B : Type} {l : List A} {n : Int} (F : A → Option B) : Abs.rowAt l n (fun e _ => F e) = rowG l n F := by
  unfold Abs.rowAt rowG
  cases l[n.toNat]? <;> rfl

theorem rowG_nat {A B : Type} {l : List A} {i : Nat} {e : A} (h : l[i]? = some e) (F : A → Option B) : rowG l (i : Int) F = F e := by
  unfold rowG
  rw [show decide (0 ≤ (i : Int)) = true from decide_eq_true (by omega), Int.toNat_natCast, h]; rfl

theorem rowG_int {A B : Type} {l : List A} {n : Int} {e : A} (h0 : 0 ≤ n) (h : l[n.toNat]? = some e) (F : A → Option B) : rowG l n F = F e := by
  unfold rowG
  rw [show decide (0 ≤ n) = true from decide_eq_true h0, h]; rfl

theorem w64_nat {i : Nat} (h : i ≤ 4294967296) : w64 ((i : Int) + 1) = ((i + 1 : Nat) : Int) := by rw [w64_id (by omega) (by omega)]; omega

theorem drop_at {A : Type} {l : List A} {i : Nat} (h : i < l.length) : ∃ e, l[i]? = some e ∧ l.drop i = e :: l.drop (i + 1) :=
  ⟨l[i], List.getElem?_eq_getElem h, List.drop_eq_getElem_cons h⟩

/-- The rows of a replica are short. -/
def Shrt (r : RT) : Prop := r.log.length ≤ 4294967295 ∧ r.votes.length ≤ 4294967295 ∧ r.mtch.length ≤ 4294967295

theorem m54_eq (a b c : Int) : m54 ((a, b, c, ()), ()) = some ((inn a b c, ()), ()) := by
  unfold m54 inn
  by_cases h : a ≥ b <;> simp [h]

theorem m108_eq (a b c : Int) : m108 ((a, b, c, ()), ()) = some ((inn a b c, ()), ()) := by
  unfold m108 inn
  by_cases h : a ≥ b <;> simp [h]

theorem inn_quorum (n : Int) : ((quorum n == 0) : Bool) = !inn n 1 5 := by
  unfold quorum inn
  by_cases h : 1 ≤ n ∧ n ≤ 5
  · rw [if_pos h]
    have : n / 2 + 1 ≠ 0 := by omega
    simp [h.1, h.2, this]
  · rw [if_neg h]
    have : (decide (1 ≤ n) && decide (n ≤ 5)) = false := by simpa using h
    rw [this]; rfl

theorem quorum_w (n : Int) (h : inn n 1 5 = true) : w64 (w64 (n.tdiv 2) + 1) = quorum n := by
  simp only [inn, Bool.and_eq_true, decide_eq_true_eq] at h
  rw [quorum_eq h.1 h.2, Int.tdiv_eq_ediv_of_nonneg (by omega), w64_id (x := n / 2) (by omega) (by omega), w64_id (by omega) (by omega)]

theorem m13_eq (n : Int) : m13 ((n, ()), ()) = some ((quorum n, ()), ()) := by
  unfold m13
  simp only [m54_eq, Option.bind_some]
  cases h : inn n 1 5
  · have := inn_quorum n; rw [h] at this; simp at this; simp [this]
  · simp [quorum_w n h]

theorem m103_eq (n : Int) : m103 ((n, ()), ()) = some ((quorum n, ()), ()) := by
  unfold m103
  simp only [m108_eq, Option.bind_some]
  cases h : inn n 1 5
  · have := inn_quorum n; rw [h] at this; simp at this; simp [this]
  · simp [quorum_w n h]

/-! ### Check, the reference -/
theorem loop85 (l : Log OpT) (term : Int) (hl : l.length ≤ 4294967295) : ∀ (k i : Nat) (last : Int), i + k = l.length →
    loopT l95_0_3 (((i : Int), l, term, last, ()), ()) = some (if srt term last (l.drop i) then .inr ((l, ()), ()) else .inl ((false, ()), ())) := by
  intro k
  induction k with
  | zero =>
    intro i last h
    rw [List.drop_eq_nil_of_le (by omega)]
    refine loopT_inr ?_
    have : ¬ (i : Int) < (l.length : Int) := by omega
    simp [l95_0_3, srt, this]
  | succ k ih =>
    intro i last h
    obtain ⟨e, he, hd⟩ := drop_at (l := l) (i := i) (by omega)
    have hlt : (i : Int) < (l.length : Int) := by omega
    rw [hd, srt]
    by_cases h1 : last ≤ e.1
    · by_cases h2 : e.1 ≤ term
      · rw [show loopT l95_0_3 (((i : Int), l, term, last, ()), ()) = loopT l95_0_3 ((((i + 1 : Nat) : Int), l, term, e.1, ()), ()) from loopT_inl (by
          have h1' : ¬ e.1 < last := by omega
          have h2' : ¬ e.1 > term := by omega
          simp only [l95_0_3, rowAt_G, rowG_nat he, hlt, h1', h2', w64_nat (show i ≤ 4294967296 by omega), decide_true, decide_false, cond_true, cond_false, Option.bind_some])]
        rw [ih (i + 1) e.1 (by omega)]
        simp only [h1, h2, decide_true, Bool.true_and]
      · rw [show (decide (last ≤ e.1) && decide (e.1 ≤ term) && srt term e.1 (l.drop (i + 1))) = false by simp [h2]]
        refine loopT_inr ?_
        have h1' : ¬ e.1 < last := by omega
        have h2' : e.1 > term := by omega
        simp only [l95_0_3, rowAt_G, rowG_nat he, hlt, h1', h2', decide_true, decide_false, cond_true, cond_false, Option.bind_some]
        rfl
    · rw [show (decide (last ≤ e.1) && decide (e.1 ≤ term) && srt term e.1 (l.drop (i + 1))) = false by simp [h1]]
      refine loopT_inr ?_
      have h1' : e.1 < last := by omega
      simp only [l95_0_3, rowAt_G, rowG_nat he, hlt, h1', decide_true, cond_true, Option.bind_some]
      rfl

theorem m95_eq (l : Log OpT) (term : Int) (hl : l.length ≤ 4294967295) : m95 ((l, term, ()), ()) = some ((logFits l term, ()), ()) := by
  unfold m95 logFits
  have := loop85 l term hl l.length 0 1 (by omega)
  simp only [List.drop_zero] at this
  rw [show loopT l95_0_3 ((0, (l, (term, (1, ())))), ()) = _ from this]
  cases srt term 1 l
  · rfl
  · simp [sumE]
    omega

end Go.Proofs.YtfbikpbejkgegaaGreat

namespace Go.Proofs.YtfbikpbejkgegaaGreat
open Go Go.Abs Go.Raft
theorem inn_iff {x a b : Int} : inn x a b = true ↔ a ≤ x ∧ x ≤ b := by simp [inn]

theorem getD_some {A : Type} {l : List A} {i : Nat} (h : i < l.length) : ∃ e, l[i]? = some e := ⟨_, List.getElem?_eq_getElem h⟩

theorem loop27 (id term voted role : Int) (log : Log OpT) (commit : Int) (votes : List Bool) (mtch : List Int) (hm : mtch.length ≤ 4294967295) : ∀ (k i : Nat), i + k = mtch.length →
    loopT l59_0_12 (((i : Int), (mtch.length : Int), ()), (((id, term, voted, role, log, commit, votes, mtch, ()), ()), ())) = some (if (mtch.drop i).all (fun m => inn m 0 log.length) then .inr ((), ()) else .inl ((false, ()), ())) := by
  intro k
  induction k with
  | zero =>
    intro i h
    rw [List.drop_eq_nil_of_le (by omega)]
    refine loopT_inr ?_
    have : ¬ (i : Int) < (mtch.length : Int) := by omega
    simp only [l59_0_12, this, sumE, sS, List.all_nil, if_true]
  | succ k ih =>
    intro i h
    obtain ⟨e, he, hd⟩ := drop_at (l := mtch) (i := i) (by omega)
    have hlt : (i : Int) < (mtch.length : Int) := by omega
    rw [hd, List.all_cons]
    cases hi : inn e 0 log.length
    · refine loopT_inr ?_
      simp only [l59_0_12, rowAt_G, rowG_nat he, hlt, m54_eq, hi, sumE, sS]
      rfl
    · rw [show loopT l59_0_12 (((i : Int), (mtch.length : Int), ()), (((id, term, voted, role, log, commit, votes, mtch, ()), ()), ())) = loopT l59_0_12 ((((i + 1 : Nat) : Int), (mtch.length : Int), ()), (((id, term, voted, role, log, commit, votes, mtch, ()), ()), ())) from loopT_inl (by
        simp only [l59_0_12, rowAt_G, rowG_nat he, hlt, m54_eq, hi, sumE, sS, w64_nat (show i ≤ 4294967296 by omega)])]
      rw [ih (i + 1) (by omega)]
      simp only [Bool.true_and]

theorem len_beq0 {A : Type} (l : List A) : ((l.length : Int) == 0) = decide (l.length = 0) := by
  by_cases h : l.length = 0
  · rw [h]; rfl
  · rw [decide_eq_false h]
    have : (l.length : Int) ≠ 0 := by omega
    simpa using this

theorem bne_decide (a b : Int) : (a != b) = decide (a ≠ b) := by
  by_cases h : a = b <;> simp [h]

theorem beq_decide (a b : Int) : (a == b) = decide (a = b) := by
  by_cases h : a = b <;> simp [h]

theorem w64_pred {n : Int} (h : inn n 1 5 = true) : w64 (n - 1) = n - 1 := by
  rw [inn_iff] at h; exact w64_id (by omega) (by omega)

theorem m59_eq (n : Int) (r : RT) (hs : Shrt r) : m59 ((n, r, ()), ()) = some ((chk n r, ()), ()) := by
  obtain ⟨id, term, voted, role, log, commit, votes, mtch, ⟨⟩⟩ := r
  obtain ⟨h1, h2, h3⟩ := hs
  simp only [Rep.id, Rep.term, Rep.voted, Rep.role, Rep.log, Rep.commit, Rep.votes, Rep.mtch, rp] at h1 h2 h3
  simp only [chk, Rep.id, Rep.term, Rep.voted, Rep.role, Rep.log, Rep.commit, Rep.votes, Rep.mtch, rp]
  unfold m59
  simp only [m13_eq, m54_eq, m95_eq _ _ h1, Option.bind_some, inn_quorum]
  cases hn : inn n 1 5
  · simp only [sumE, sS]
  simp only [w64_pred hn]
  cases hid : inn id 0 (n - 1)
  · simp only [sumE, sS]
  cases ht : inn term 0 1048576
  · simp only [sumE, sS]
  cases hv : inn voted (-1) (n - 1)
  · simp only [sumE, sS]
  cases hl : logFits log term
  · simp only [sumE, sS]
  cases hc : inn commit 0 log.length
  · simp only [sumE, sS]
  simp only [sumE, sS]
  rw [inn_iff] at hid hn
  unfold roleOK
  simp only [Rep.id, Rep.term, Rep.voted, Rep.role, Rep.log, Rep.commit, Rep.votes, Rep.mtch, rp]
  by_cases r0 : role = 0
  · subst r0
    simp only [len_beq0]
    by_cases hv0 : votes.length = 0 <;> by_cases hm0 : mtch.length = 0 <;> simp only [hv0, hm0, sumE, sS, if_true]
  by_cases r1 : role = 1
  · subst r1
    by_cases hvn : (votes.length : Int) = n
    · obtain ⟨b, hb⟩ := getD_some (l := votes) (i := id.toNat) (by omega)
      simp only [rowAt_G, rowG_int hid.1 hb, hvn, hb, Option.getD_some, sumE, sS, show ((1 : Int) == 0) = false from rfl, if_neg r0, if_true]
      simp only [len_beq0]
      by_cases hm0 : mtch.length = 0 <;> cases b <;> simp only [hm0, sumE, sS]
    · simp only [rowAt_G, show ((votes.length : Int) == n) = false by simpa using hvn, hvn, sumE, sS, show ((1 : Int) == 0) = false from rfl, if_neg r0, if_true]
  by_cases r2 : role = 2
  · subst r2
    simp only [sumE, sS, show ((2 : Int) == 0) = false from rfl, show ((2 : Int) == 1) = false from rfl, if_neg r0, if_neg r1, if_true]
    by_cases hvn : (votes.length : Int) = n
    · obtain ⟨b, hb⟩ := getD_some (l := votes) (i := id.toNat) (by omega)
      simp only [rowAt_G, rowG_int hid.1 hb, show ((votes.length : Int) != n) = false by simpa using hvn, hvn, hb, Option.getD_some, sumE, sS]
      cases b
      · simp only [sumE, sS]
      · by_cases hmn : (mtch.length : Int) = n
        · obtain ⟨p, hp⟩ := getD_some (l := mtch) (i := id.toNat) (by omega)
          simp only [rowG_int hid.1 hp, show ((mtch.length : Int) != n) = false by simpa using hmn, hmn, hp, Option.getD_some, sumE, sS]
          by_cases hpl : p = (log.length : Int)
          · have := loop27 id term voted 2 log commit votes mtch h3 mtch.length 0 (by omega)
            simp only [List.drop_zero, hmn] at this
            simp only [show (p != (log.length : Int)) = false by simpa using hpl, hpl, sumE, sS]
            rw [show loopT l59_0_12 ((0, (n, ())), (((id, (term, (voted, (2, (log, (commit, (votes, (mtch, ())))))))), ()), ())) = _ from this]
            cases mtch.all (fun m => inn m 0 log.length) <;> rfl
          · simp only [show (p != (log.length : Int)) = true by simpa using hpl, hpl, sumE, sS]
        · simp only [show ((mtch.length : Int) != n) = true by simpa using hmn, hmn, sumE, sS]
    · simp only [show ((votes.length : Int) != n) = true by simpa using hvn, hvn, sumE, sS]
  · simp only [show (role == 0) = false by simpa using r0, show (role == 1) = false by simpa using r1, show (role == 2) = false by simpa using r2, r0, r1, r2, if_false, sumE, sS]

/-! ### The program's Check -/
theorem loop82 (id term voted role : Int) (log : Log OpT) (commit : Int) (votes : List Bool) (mtch : List Int) (hm : log.length ≤ 4294967295) : ∀ (k i : Nat) (last : Int), i + k = log.length →
    loopT l109_0_3 (((i : Int), last, log, (log.length : Int), ()), (((id, term, voted, role, log, commit, votes, mtch, ()), ()), ())) = some (if srt term last (log.drop i) then .inr ((), (((id, term, voted, role, log, commit, votes, mtch, ()), ()), ())) else .inl ((false, ()), ())) := by
  intro k
  induction k with
  | zero =>
    intro i last h
    rw [List.drop_eq_nil_of_le (by omega)]
    refine loopT_inr ?_
    have : ¬ (i : Int) < (log.length : Int) := by omega
    simp only [l109_0_3, this, sumE, sS, srt, if_true]
  | succ k ih =>
    intro i last h
    obtain ⟨e, he, hd⟩ := drop_at (l := log) (i := i) (by omega)
    have hlt : (i : Int) < (log.length : Int) := by omega
    rw [hd, srt]
    cases hi : inn e.1 last term
    · refine loopT_inr ?_
      simp only [l109_0_3, rowAt_G, rowG_nat he, hlt, m108_eq, hi, sumE, sS]
      unfold inn at hi
      rw [hi]; rfl
    · rw [show loopT l109_0_3 (((i : Int), last, log, (log.length : Int), ()), (((id, term, voted, role, log, commit, votes, mtch, ()), ()), ())) = loopT l109_0_3 ((((i + 1 : Nat) : Int), e.1, log, (log.length : Int), ()), (((id, term, voted, role, log, commit, votes, mtch, ()), ()), ())) from loopT_inl (by
        simp only [l109_0_3, rowAt_G, rowG_nat he, hlt, m108_eq, hi, sumE, sS, w64_nat (show i ≤ 4294967296 by omega)])]
      rw [ih (i + 1) e.1 (by omega)]
      unfold inn at hi
      rw [hi]; simp only [Bool.true_and]

theorem m109_eq (r : RT) (hs : Shrt r) : m109 ((r, ()), ()) = some ((logFits r.log r.term && inn r.commit 0 r.log.length, ()), ()) := by
  obtain ⟨id, term, voted, role, log, commit, votes, mtch, ⟨⟩⟩ := r
  obtain ⟨h1, h2, h3⟩ := hs
  simp only [Rep.id, Rep.term, Rep.voted, Rep.role, Rep.log, Rep.commit, Rep.votes, Rep.mtch, rp] at h1 h2 h3
  simp only [logFits, Rep.id, Rep.term, Rep.voted, Rep.role, Rep.log, Rep.commit, Rep.votes, Rep.mtch, rp]
  unfold m109
  have := loop82 id term voted role log commit votes mtch h1 log.length 0 1 (by omega)
  simp only [List.drop_zero] at this
  simp only []
  rw [show loopT l109_0_3 ((0, (1, (log, ((log.length : Int), ())))), (((id, term, voted, role, log, commit, votes, mtch, ()), ()), ())) = _ from this]
  cases srt term 1 log
  · rfl
  · simp only [if_true, m108_eq, sumE, sS]
    by_cases hl : log.length ≤ 256
    · have : (log.length : Int) ≤ 256 := by omega
      simp only [hl, this, sumE, sS]
    · have : ¬ (log.length : Int) ≤ 256 := by omega
      simp only [hl, this, sumE, sS]

theorem loop84 (id term voted role : Int) (log : Log OpT) (commit : Int) (votes : List Bool) (mtch : List Int) (hm : mtch.length ≤ 4294967295) : ∀ (k i : Nat), i + k = mtch.length →
    ∃ d, loopT l111_2_2 (((i : Int), mtch, (mtch.length : Int), ()), (((id, term, voted, role, log, commit, votes, mtch, ()), ()), ())) = some d ∧
      (if (mtch.drop i).all (fun m => inn m 0 log.length) then d = .inr ((), (((id, term, voted, role, log, commit, votes, mtch, ()), ()), ())) else ∃ j : Nat, d = .inl (((j : Int), ()), (((id, term, voted, role, log, commit, votes, mtch, ()), ()), ()))) := by
  intro k
  induction k with
  | zero =>
    intro i h
    rw [List.drop_eq_nil_of_le (by omega)]
    refine ⟨.inr ((), (((id, term, voted, role, log, commit, votes, mtch, ()), ()), ())), loopT_inr ?_, by simp only [List.all_nil, if_true]⟩
    have : ¬ (i : Int) < (mtch.length : Int) := by omega
    simp only [l111_2_2, this, sumE, sS]
  | succ k ih =>
    intro i h
    obtain ⟨e, he, hd⟩ := drop_at (l := mtch) (i := i) (by omega)
    have hlt : (i : Int) < (mtch.length : Int) := by omega
    rw [hd, List.all_cons]
    cases hi : inn e 0 log.length
    · refine ⟨.inl (((i : Int), ()), (((id, term, voted, role, log, commit, votes, mtch, ()), ()), ())), loopT_inr ?_, ⟨i, rfl⟩⟩
      simp only [l111_2_2, rowAt_G, rowG_nat he, hlt, m108_eq, hi, sumE, sS]
    · rw [show loopT l111_2_2 (((i : Int), mtch, (mtch.length : Int), ()), (((id, term, voted, role, log, commit, votes, mtch, ()), ()), ())) = loopT l111_2_2 ((((i + 1 : Nat) : Int), mtch, (mtch.length : Int), ()), (((id, term, voted, role, log, commit, votes, mtch, ()), ()), ())) from loopT_inl (by
        simp only [l111_2_2, rowAt_G, rowG_nat he, hlt, m108_eq, hi, sumE, sS, w64_nat (show i ≤ 4294967296 by omega)])]
      obtain ⟨d, h1, h2⟩ := ih (i + 1) (by omega)
      refine ⟨d, h1, ?_⟩
      simpa only [Bool.true_and] using h2

theorem m110_eq (n : Int) (r : RT) (h0 : 0 ≤ r.id) (h1 : r.id < n) : m110 ((n, r, ()), ()) = some ((decide ((r.votes.length : Int) = n) && r.votes[r.id.toNat]?.getD false, ()), ()) := by
  obtain ⟨id, term, voted, role, log, commit, votes, mtch, ⟨⟩⟩ := r
  simp only [Rep.id, Rep.term, Rep.voted, Rep.role, Rep.log, Rep.commit, Rep.votes, Rep.mtch, rp] at h0 h1 ⊢
  unfold m110
  by_cases hvn : (votes.length : Int) = n
  · obtain ⟨b, hb⟩ := getD_some (l := votes) (i := id.toNat) (by omega)
    simp only [rowAt_G, rowG_int h0 hb, show ((votes.length : Int) == n) = true by simpa using hvn, hvn, hb, Option.getD_some, sumE, sS]
  · simp only [rowAt_G, show ((votes.length : Int) == n) = false by simpa using hvn, hvn, sumE, sS]

theorem m111_eq (n : Int) (r : RT) (hs : Shrt r) (h0 : 0 ≤ r.id) (h1 : r.id < n) : m111 ((n, r, ()), ()) = some ((decide ((r.mtch.length : Int) = n) && decide (r.mtch[r.id.toNat]?.getD 0 = (r.log.length : Int)) && r.mtch.all (fun m => inn m 0 r.log.length), ()), ()) := by
  obtain ⟨id, term, voted, role, log, commit, votes, mtch, ⟨⟩⟩ := r
  obtain ⟨_, _, h3⟩ := hs
  simp only [Rep.id, Rep.term, Rep.voted, Rep.role, Rep.log, Rep.commit, Rep.votes, Rep.mtch, rp] at h0 h1 h3 ⊢
  unfold m111
  by_cases hmn : (mtch.length : Int) = n
  · obtain ⟨p, hp⟩ := getD_some (l := mtch) (i := id.toNat) (by omega)
    simp only [rowAt_G, rowG_int h0 hp, show ((mtch.length : Int) == n) = true by simpa using hmn, hp, Option.getD_some, sumE, sS, hmn, eq_self]
    by_cases hpl : p = (log.length : Int)
    · simp only [show (p == (log.length : Int)) = true by simpa using hpl, hpl, sumE, sS, hmn, eq_self]
      obtain ⟨d, e1, e2⟩ := loop84 id term voted role log commit votes mtch h3 mtch.length 0 (by omega)
      simp only [List.drop_zero] at e2
      rw [hmn] at e1
      rw [show loopT l111_2_2 ((0, (mtch, (n, ()))), (((id, term, voted, role, log, commit, votes, mtch, ()), ()), ())) = _ from e1]
      cases ha : mtch.all (fun m => inn m 0 log.length)
      · rw [ha] at e2
        obtain ⟨j, rfl⟩ := e2
        have : (j : Int) ≥ 0 := by omega
        simp only [this, sumE, sS]
      · rw [ha] at e2
        simp only [if_true] at e2
        subst e2
        simp only [sumE, sS]
    · simp only [show (p == (log.length : Int)) = false by simpa using hpl, hpl, sumE, sS]
  · simp only [rowAt_G, show ((mtch.length : Int) == n) = false by simpa using hmn, hmn, sumE, sS]

theorem m84_eq (n : Int) (r : RT) (hs : Shrt r) : m84 ((n, r, ()), ()) = some ((chk n r, ()), ()) := by
  have e82 := m109_eq r hs
  have e83 := m110_eq n r
  have e84 := m111_eq n r hs
  obtain ⟨id, term, voted, role, log, commit, votes, mtch, ⟨⟩⟩ := r
  simp only [Rep.id, Rep.term, Rep.voted, Rep.role, Rep.log, Rep.commit, Rep.votes, Rep.mtch, rp] at e82 e83 e84
  simp only [chk, roleOK, Rep.id, Rep.term, Rep.voted, Rep.role, Rep.log, Rep.commit, Rep.votes, Rep.mtch, rp]
  unfold m84
  simp only [m108_eq, Option.bind_some]
  cases hn : inn n 1 5
  · simp only [sumE, sS]
  simp only [w64_pred hn]
  cases hid : inn id 0 (n - 1)
  · simp only [sumE, sS]
  have hid' := inn_iff.1 hid
  simp only [e82, e83 hid'.1 (by omega), e84 hid'.1 (by omega), Option.bind_some]
  cases ht : inn term 0 1048576
  · simp only [sumE, sS]
  cases hv : inn voted (-1) (n - 1)
  · simp only [sumE, sS]
  cases hl : logFits log term
  · simp only [sumE, sS]
  cases hc : inn commit 0 log.length
  · simp only [sumE, sS]
  simp only [sumE, sS, len_beq0]
  by_cases r0 : role = 0
  · subst r0
    by_cases hv0 : votes.length = 0 <;> simp only [hv0, sumE, sS, if_true]
  by_cases r1 : role = 1
  · subst r1
    simp only [show ((1 : Int) == 0) = false from rfl, if_true, if_neg r0, e83 hid'.1 (by omega), sumE, sS]
    cases (decide ((votes.length : Int) = n) && votes[id.toNat]?.getD false) <;> simp only [sumE, sS]
  by_cases r2 : role = 2
  · subst r2
    simp only [show ((2 : Int) == 0) = false from rfl, show ((2 : Int) == 1) = false from rfl, if_true, if_neg r0, if_neg r1, e83 hid'.1 (by omega), e84 hid'.1 (by omega), sumE, sS]
    cases (decide ((votes.length : Int) = n) && votes[id.toNat]?.getD false)
    · simp only [sumE, sS]
    · simp only [sumE, sS]
  · simp only [show (role == 0) = false by simpa using r0, show (role == 1) = false by simpa using r1, show (role == 2) = false by simpa using r2, r0, r1, r2, if_false, sumE, sS]

end Go.Proofs.YtfbikpbejkgegaaGreat

namespace Go.Proofs.YtfbikpbejkgegaaGreat
open Go Go.Abs Go.Raft
/-- A copy as the functions return it. -/
abbrev cpR (r : RT) : Unit × (((Int × Int × Int × Int × Int × Unit) × Unit) × Log OpT × List Bool × List Int × Unit) := ((), (((r.id, r.term, r.voted, r.role, r.commit, ()), ()), (r.log, (r.votes, (r.mtch, ())))))

/-- A message without entries, as the functions return it. -/
abbrev nm (m : MT) : Int × Int × Int × Int × Int × Int × Int × Bool × Unit := (m.kind, m.frm, m.to, m.term, m.prev, m.pterm, m.commit, m.ok, ())

theorem m89_eq (r : RT) (hs : Shrt r) : m89 ((r, ()), ()) = some (cpR r) := by
  obtain ⟨id, term, voted, role, log, commit, votes, mtch, ⟨⟩⟩ := r
  obtain ⟨h1, h2, h3⟩ := hs
  simp only [Rep.id, Rep.term, Rep.voted, Rep.role, Rep.log, Rep.commit, Rep.votes, Rep.mtch, rp] at h1 h2 h3
  have a1 : 0 + log.length ≤ 4294967296 := by omega
  have a2 : 0 + votes.length ≤ 4294967296 := by omega
  have a3 : 0 + mtch.length ≤ 4294967296 := by omega
  unfold m89
  simp only [a1, a2, a3, sumE, sS, cpR]

theorem m94_eq (r : RT) (hs : Shrt r) : m94 ((r, ()), ()) = some (cpR r) := by
  obtain ⟨id, term, voted, role, log, commit, votes, mtch, ⟨⟩⟩ := r
  obtain ⟨h1, h2, h3⟩ := hs
  simp only [Rep.id, Rep.term, Rep.voted, Rep.role, Rep.log, Rep.commit, Rep.votes, Rep.mtch, rp] at h1 h2 h3
  have a1 : log.length ≤ 4294967296 := by omega
  have a2 : votes.length ≤ 4294967296 := by omega
  have a3 : mtch.length ≤ 4294967296 := by omega
  unfold m94 m65 m92 m112
  simp only [a1, a2, a3, sumE, sS, cpR]

theorem last_at {l : Log OpT} (h : l.length ≠ 0) : ∃ e, l[l.length - 1]? = some e ∧ lastT l = e.1 := by
  obtain ⟨e, he⟩ := getD_some (l := l) (i := l.length - 1) (by omega)
  exact ⟨e, he, lastT_get he (by omega)⟩

theorem lastT_eq0 {l : Log OpT} (h : l.length = 0) : lastT l = 0 := by
  rw [List.length_eq_zero_iff.1 h]; rfl

theorem m12_eq (r : RT) (hs : Shrt r) : m12 ((r, ()), ()) = some ((lastT r.log, ()), ()) := by
  obtain ⟨id, term, voted, role, log, commit, votes, mtch, ⟨⟩⟩ := r
  obtain ⟨h1, h2, h3⟩ := hs
  simp only [Rep.id, Rep.term, Rep.voted, Rep.role, Rep.log, Rep.commit, Rep.votes, Rep.mtch, rp] at h1 h2 h3
  unfold m12
  simp only [len_beq0, rowAt_G]
  by_cases h : log.length = 0
  · simp only [h, sumE, sS, lastT_eq0 h]
  · obtain ⟨e, he, hl⟩ := last_at h
    have w : w64 ((log.length : Int) - 1) = ((log.length - 1 : Nat) : Int) := by rw [w64_id (by omega) (by omega)]; omega
    simp only [h, sumE, sS, w, rowG_nat he, hl]

theorem m98_eq (r : RT) (hs : Shrt r) : m98 ((r, ()), ()) = some ((lastT r.log, ()), ()) := by
  obtain ⟨id, term, voted, role, log, commit, votes, mtch, ⟨⟩⟩ := r
  obtain ⟨h1, h2, h3⟩ := hs
  simp only [Rep.id, Rep.term, Rep.voted, Rep.role, Rep.log, Rep.commit, Rep.votes, Rep.mtch, rp] at h1 h2 h3
  unfold m98
  simp only [len_beq0, rowAt_G]
  by_cases h : log.length = 0
  · simp only [h, sumE, sS, lastT_eq0 h]
  · obtain ⟨e, he, hl⟩ := last_at h
    have w : w64 ((log.length : Int) - 1) = ((log.length - 1 : Nat) : Int) := by rw [w64_id (by omega) (by omega)]; omega
    simp only [h, sumE, sS, w, rowG_nat he, hl]

theorem m11_eq (r : RT) (a b : Int) (hs : Shrt r) : m11 ((r, a, b, ()), ()) = some ((fresh r.log a b, ()), ()) := by
  unfold m11 fresh
  simp only [m12_eq r hs, Option.bind_some]
  by_cases h1 : b > lastT r.log
  · simp only [h1, sumE, sS, Bool.true_or]
  · by_cases h2 : b = lastT r.log
    · simp only [h1, h2, sumE, sS, Bool.false_or]
      simp
    · simp only [h1, h2, show (b == lastT r.log) = false by simpa using h2, sumE, sS, Bool.or_self]

theorem m124_eq (r : RT) (a b : Int) (hs : Shrt r) : m124 ((r, a, b, ()), ()) = some ((fresh r.log a b, ()), ()) := by
  unfold m124 fresh
  simp only [m98_eq r hs, Option.bind_some]
  by_cases h1 : b > lastT r.log
  · simp only [h1, sumE, sS, Bool.true_or]
  · by_cases h2 : b = lastT r.log
    · simp only [h1, h2, sumE, sS, Bool.false_or]
      simp
    · simp only [h1, h2, show (b == lastT r.log) = false by simpa using h2, sumE, sS, Bool.or_self]

theorem m105_eq (r : RT) (t : Int) : m105 ((r, t, ()), ()) = some ((), ((fol r t, ()), ())) := by
  obtain ⟨id, term, voted, role, log, commit, votes, mtch, ⟨⟩⟩ := r
  unfold m105 fol
  simp only [Rep.id, Rep.term, Rep.voted, Rep.role, Rep.log, Rep.commit, Rep.votes, Rep.mtch, rp]
  by_cases h : t > term
  · simp only [h, sumE, sS, if_true]
  · simp only [h, sumE, sS, if_false]

theorem m123_eq (r : RT) (t : Int) (ht : t ≤ 1048576) (h0 : -1000000000 ≤ r.term) (h1 : r.term ≤ 1000000000) : m123 ((r, t, ()), ()) = some ((), ((fol r t, ()), ())) := by
  obtain ⟨id, term, voted, role, log, commit, votes, mtch, ⟨⟩⟩ := r
  simp only [Rep.id, Rep.term, Rep.voted, Rep.role, Rep.log, Rep.commit, Rep.votes, Rep.mtch, rp] at h0 h1
  unfold m123 fol
  simp only [Rep.id, Rep.term, Rep.voted, Rep.role, Rep.log, Rep.commit, Rep.votes, Rep.mtch, rp, m108_eq, Option.bind_some]
  rw [w64_id (x := term + 1) (by omega) (by omega)]
  by_cases h : t > term
  · have : inn t (term + 1) 1048576 = true := inn_iff.2 ⟨by omega, by omega⟩
    simp only [h, this, sumE, sS, if_true]
  · have : inn t (term + 1) 1048576 = false := by
      cases hh : inn t (term + 1) 1048576 with
      | false => rfl
      | true => have := inn_iff.1 hh; omega
    simp only [h, this, sumE, sS, if_false]

theorem chk_n {n : Int} {r : RT} (h : chk n r = true) : inn n 1 5 = true := by
  have := chk_iff.1 h
  exact inn_iff.2 ⟨this.n1, this.n5⟩

theorem m104_eq (n : Int) (r : RT) (m : MT) (k : Int) (hs : Shrt r) : m104 ((n, r, m, k, ()), ()) = some ((toOK n r m k, ()), ()) := by
  unfold m104 toOK
  simp only [m59_eq n r hs, m54_eq, Option.bind_some]
  cases hc : chk n r
  · simp only [sumE, sS]
  simp only [w64_pred (chk_n hc)]
  obtain ⟨kind, frm, to, term, prev, pterm, commit, ents, ok, ⟨⟩⟩ := m
  simp only [Msg.kind, Msg.frm, Msg.to, Msg.term, Msg.prev, Msg.pterm, Msg.commit, Msg.ents, Msg.ok, mg, beq_decide, bne_decide, Rep.id]
  by_cases h1 : kind = k
  · by_cases h2 : to = r.1
    · simp only [h1, h2, sumE, sS]
      cases h3 : inn frm 0 (n - 1)
      · simp only [sumE, sS]
      · by_cases h4 : frm = r.1 <;> simp [h4]
    · simp only [h1, h2, sumE, sS]
  · simp only [h1, sumE, sS]

theorem m122_eq (n : Int) (r : RT) (m : MT) (k : Int) (hs : Shrt r) : m122 ((n, r, m, k, ()), ()) = some ((toOK n r m k, ()), ()) := by
  unfold m122 toOK
  simp only [m84_eq n r hs, m108_eq, Option.bind_some]
  cases hc : chk n r
  · simp only [sumE, sS]
  simp only [w64_pred (chk_n hc)]
  obtain ⟨kind, frm, to, term, prev, pterm, commit, ents, ok, ⟨⟩⟩ := m
  simp only [Msg.kind, Msg.frm, Msg.to, Msg.term, Msg.prev, Msg.pterm, Msg.commit, Msg.ents, Msg.ok, mg, beq_decide, bne_decide, Rep.id]
  by_cases h1 : kind = k
  · by_cases h2 : to = r.1
    · simp only [h1, h2, sumE, sS]
      cases h3 : inn frm 0 (n - 1)
      · simp only [sumE, sS]
      · by_cases h4 : frm = r.1 <;> simp [h4]
    · simp only [h1, h2, sumE, sS]
  · simp only [h1, sumE, sS]

theorem shrt_follow {r : RT} (t : Int) (hs : Shrt r) : Shrt (fol r t) := by
  unfold fol
  split
  · exact ⟨hs.1, Nat.zero_le _, Nat.zero_le _⟩
  · exact hs

theorem m74_eq (n : Int) (r : RT) (m : MT) (hs : Shrt r) : m74 ((n, r, m, ()), ()) = some (((hear n r m).2.2, ()), (((hear n r m).1, ()), ((nm (hear n r m).2.1, ()), ()))) := by
  unfold m74
  simp only [m104_eq n r m 1 hs, Option.bind_some, m89_eq r hs]
  unfold hear
  cases ho : toOK n r m 1
  · simp only [sumE, sS]; rfl
  simp only [sumE, sS, if_true]
  obtain ⟨kind, frm, to, mterm, prev, pterm, mcommit, ents, ok, ⟨⟩⟩ := m
  simp only [hearR, hearM, Msg.kind, Msg.frm, Msg.to, Msg.term, Msg.prev, Msg.pterm, Msg.commit, Msg.ents, Msg.ok, mg]
  rw [show m105 (((r.id, r.term, r.voted, r.role, r.log, r.commit, r.votes, r.mtch, ()), mterm, ()), ()) = some ((), ((fol r mterm, ()), ())) from m105_eq r mterm]
  have hx := shrt_follow mterm hs
  have hrid : r.id = r.1 := rfl
  generalize fol r mterm = x at hx
  have e38 := fun a b => m11_eq x a b hx
  obtain ⟨id, term, voted, role, log, commit, votes, mtch, ⟨⟩⟩ := x
  simp only [Option.bind_some, e38, hearYes, vote, Rep.id, Rep.term, Rep.voted, Rep.role, Rep.log, Rep.commit, Rep.votes, Rep.mtch, rp, Msg.kind, Msg.frm, Msg.to, Msg.term, Msg.prev, Msg.pterm, Msg.commit, Msg.ents, Msg.ok, mg, beq_decide]
  rcases Bool.eq_false_or_eq_true (decide (term = mterm)) with h1 | h1 <;> rcases Bool.eq_false_or_eq_true (decide (voted = -1)) with h2 | h2 <;> rcases Bool.eq_false_or_eq_true (decide (voted = frm)) with h3 | h3 <;> rcases Bool.eq_false_or_eq_true (decide (role = 0)) with h4 | h4 <;> rcases Bool.eq_false_or_eq_true (fresh log prev pterm) with h5 | h5 <;> simp only [h1, h2, h3, h4, h5, sumE, sS, Bool.true_or, Bool.or_true, Bool.or_self, if_true, if_false, Bool.false_eq_true]

theorem m115_eq (n : Int) (r : RT) (m : MT) (hs : Shrt r) : m115 ((n, r, m, ()), ()) = some (((hear n r m).2.2, ()), (((hear n r m).1, ()), ((nm (hear n r m).2.1, ()), ()))) := by
  unfold m115
  simp only [m94_eq r hs, Option.bind_some]
  rw [show m122 ((n, (r.id, r.term, r.voted, r.role, r.log, r.commit, r.votes, r.mtch, ()), m, 1, ()), ()) = some ((toOK n r m 1, ()), ()) from m122_eq n r m 1 hs]
  unfold hear
  cases ho : toOK n r m 1
  · simp only [sumE, sS]; rfl
  obtain ⟨hc, _, _, _, _, _, _, ht⟩ := toOK_iff.1 ho
  simp only [sumE, sS, if_true]
  obtain ⟨kind, frm, to, mterm, prev, pterm, mcommit, ents, ok, ⟨⟩⟩ := m
  simp only [hearR, hearM, Msg.kind, Msg.frm, Msg.to, Msg.term, Msg.prev, Msg.pterm, Msg.commit, Msg.ents, Msg.ok, mg] at ht ⊢
  rw [show m123 (((r.id, r.term, r.voted, r.role, r.log, r.commit, r.votes, r.mtch, ()), mterm, ()), ()) = some ((), ((fol r mterm, ()), ())) from m123_eq r mterm ht (by have := hc.t0; omega) (by have := hc.t1; omega)]
  have hx := shrt_follow mterm hs
  have hrid : r.id = (fol r mterm).id := by unfold fol; split <;> rfl
  rw [hrid]
  generalize fol r mterm = x at hx
  have e21 := fun a b => m124_eq x a b hx
  obtain ⟨id, term, voted, role, log, commit, votes, mtch, ⟨⟩⟩ := x
  simp only [Option.bind_some, e21, hearYes, vote, Rep.id, Rep.term, Rep.voted, Rep.role, Rep.log, Rep.commit, Rep.votes, Rep.mtch, rp, Msg.kind, Msg.frm, Msg.to, Msg.term, Msg.prev, Msg.pterm, Msg.commit, Msg.ents, Msg.ok, mg, beq_decide]
  rcases Bool.eq_false_or_eq_true (decide (term = mterm)) with h1 | h1 <;> rcases Bool.eq_false_or_eq_true (decide (voted = -1)) with h2 | h2 <;> rcases Bool.eq_false_or_eq_true (decide (voted = frm)) with h3 | h3 <;> rcases Bool.eq_false_or_eq_true (decide (role = 0)) with h4 | h4 <;> rcases Bool.eq_false_or_eq_true (fresh log prev pterm) with h5 | h5 <;> simp only [h1, h2, h3, h4, h5, sumE, sS, Bool.true_or, Bool.or_true, Bool.or_self, if_true, if_false, Bool.false_eq_true]

end Go.Proofs.YtfbikpbejkgegaaGreat

namespace Go.Proofs.YtfbikpbejkgegaaGreat
open Go Go.Abs Go.Raft
abbrev zeroR : RT := rp 0 0 0 0 [] 0 [] []

def stand (n : Int) (r : RT) : Int × RT × List MT :=
  if chk n r = true then (if r.term = 1048576 then (5, zeroR, []) else (0, standR n r, asks n r)) else (8, zeroR, [])

abbrev r7 (r : RT) : Int × Int × Int × Int × Log OpT × Int × List Bool × Unit := (r.id, r.term, r.voted, r.role, r.log, r.commit, r.votes, ())

theorem m100_eq (n : Int) (r : RT) (h1 : 1 ≤ n) (h5 : n ≤ 5) (i0 : 0 ≤ r.id) (i1 : r.id < n) : m100 ((n, r, ()), ()) = some ((), ((r7 (lead n r), ()), ((lead n r).mtch, ()))) := by
  obtain ⟨id, term, voted, role, log, commit, votes, mtch, ⟨⟩⟩ := r
  simp only [Rep.id, Rep.term, Rep.voted, Rep.role, Rep.log, Rep.commit, Rep.votes, Rep.mtch, rp] at i0 i1
  unfold m100
  have a1 : (0 : Int) ≤ n ∧ n ≤ n ∧ n ≤ 4294967296 := by omega
  have a2 : (0 : Int) ≤ id ∧ id < ((List.replicate n.toNat (0 : Int)).length : Int) := by simp; omega
  have a3 : id.toNat < (List.replicate n.toNat (0 : Int)).length := by simp; omega
  simp only [a1, a2, a3, sumE, sS, and_self, r7, lead, Rep.id, Rep.term, Rep.voted, Rep.role, Rep.log, Rep.commit, Rep.votes, Rep.mtch, rp]

theorem yes_cons (b : Bool) (l : List Bool) : yes (b :: l) = (if b then 1 else 0) + yes l := by
  unfold yes
  rw [List.countP_cons]
  cases b <;> simp <;> omega

theorem loop77 (id term voted role : Int) (log : Log OpT) (commit : Int) (vs : List Bool) (mtch : List Int) (n : Int) (votes : List Bool) (hv : votes.length ≤ 4294967295) : ∀ (k i : Nat) (c : Int), i + k = votes.length → 0 ≤ c → c ≤ i →
    loopT l99_0_3 (((i : Int), c, votes, n, (votes.length : Int), ()), (((0, 0, 0, 0, 0, ()), ()), (((id, term, voted, role, log, commit, vs, mtch, ()), ()), ()))) = some ((n, c + yes (votes.drop i), ()), (((0, 0, 0, 0, 0, ()), ()), (((id, term, voted, role, log, commit, vs, mtch, ()), ()), ()))) := by
  intro k
  induction k with
  | zero =>
    intro i c h _ _
    rw [List.drop_eq_nil_of_le (by omega)]
    refine loopT_inr ?_
    have : ¬ (i : Int) < (votes.length : Int) := by omega
    simp only [l99_0_3, this, sumE, sS]
    simp [yes]
  | succ k ih =>
    intro i c h c0 c1
    obtain ⟨e, he, hd⟩ := drop_at (l := votes) (i := i) (by omega)
    have hlt : (i : Int) < (votes.length : Int) := by omega
    rw [hd, yes_cons]
    have hc : w64 (c + 1) = c + 1 := w64_id (by omega) (by omega)
    cases e
    · rw [show loopT l99_0_3 (((i : Int), c, votes, n, (votes.length : Int), ()), (((0, 0, 0, 0, 0, ()), ()), (((id, term, voted, role, log, commit, vs, mtch, ()), ()), ()))) = loopT l99_0_3 ((((i + 1 : Nat) : Int), c, votes, n, (votes.length : Int), ()), (((0, 0, 0, 0, 0, ()), ()), (((id, term, voted, role, log, commit, vs, mtch, ()), ()), ()))) from loopT_inl (by
        simp only [l99_0_3, rowAt_G, rowG_nat he, hlt, sumE, sS, w64_nat (show i ≤ 4294967296 by omega)])]
      rw [ih (i + 1) c (by omega) (by omega) (by omega)]
      simp
    · rw [show loopT l99_0_3 (((i : Int), c, votes, n, (votes.length : Int), ()), (((0, 0, 0, 0, 0, ()), ()), (((id, term, voted, role, log, commit, vs, mtch, ()), ()), ()))) = loopT l99_0_3 ((((i + 1 : Nat) : Int), c + 1, votes, n, (votes.length : Int), ()), (((0, 0, 0, 0, 0, ()), ()), (((id, term, voted, role, log, commit, vs, mtch, ()), ()), ()))) from loopT_inl (by
        simp only [l99_0_3, rowAt_G, rowG_nat he, hlt, sumE, sS, w64_nat (show i ≤ 4294967296 by omega), hc])]
      rw [ih (i + 1) (c + 1) (by omega) (by omega) (by omega)]
      simp only [if_true]
      rw [show c + 1 + yes (votes.drop (i + 1)) = c + (1 + yes (votes.drop (i + 1))) by omega]

theorem m99_eq (n : Int) (r : RT) (hs : Shrt r) (h1 : 1 ≤ n) (h5 : n ≤ 5) (i0 : 0 ≤ r.id) (i1 : r.id < n) : m99 ((n, r, ()), ()) = some ((), ((if yes r.votes ≥ quorum n then lead n r else r, ()), ())) := by
  obtain ⟨id, term, voted, role, log, commit, votes, mtch, ⟨⟩⟩ := r
  obtain ⟨s1, s2, s3⟩ := hs
  simp only [Rep.id, Rep.term, Rep.voted, Rep.role, Rep.log, Rep.commit, Rep.votes, Rep.mtch, rp] at i0 i1 s1 s2 s3 ⊢
  unfold m99
  have := loop77 id term voted role log commit votes mtch n votes s2 votes.length 0 0 (by omega) (by omega) (by omega)
  simp only [List.drop_zero] at this
  simp only []
  rw [show loopT l99_0_3 ((0, (0, (votes, (n, ((votes.length : Int), ()))))), (((0, (0, (0, (0, (0, ()))))), ()), (((id, term, voted, role, log, commit, votes, mtch, ()), ()), ()))) = _ from this]
  have a1 : (0 : Int) ≤ n ∧ n ≤ n ∧ n ≤ 4294967296 := by omega
  have a2 : (0 : Int) ≤ id ∧ id < ((List.replicate n.toNat (0 : Int)).length : Int) := by simp; omega
  have a3 : id.toNat < (List.replicate n.toNat (0 : Int)).length := by simp; omega
  rw [Int.zero_add]
  by_cases hq : yes votes ≥ quorum n
  · simp only [Option.bind_some, m103_eq, hq, sumE, sS, a1, a2, a3, and_self, if_true, lead, Rep.id, Rep.term, Rep.voted, Rep.role, Rep.log, Rep.commit, Rep.votes, Rep.mtch, rp]
  · simp only [Option.bind_some, m103_eq, hq, sumE, sS, if_false]

theorem yes_one' : ∀ n ≤ 5, ∀ k < n, yes ((List.replicate n false).set k true) = 1 := by decide

theorem range_filter (i k : Nat) (p : Nat → Bool) : (List.range' i (k + 1)).filter p = if p i then i :: (List.range' (i + 1) k).filter p else (List.range' (i + 1) k).filter p := by
  rw [List.range'_succ, List.filter_cons]

theorem loop23 (id term voted role commit : Int) (log : Log OpT) (votes : List Bool) (n : Int) (hl : log.length ≤ 4294967295) (hvv : votes.length ≤ 4294967295) (n5 : n ≤ 4294967295) : ∀ (k i : Nat) (acc : List MT), (i : Int) + k = n → acc.length ≤ i →
    loopT l69_0_11 (((i : Int), n, n, ()), (((id, term, voted, role, commit, ()), ()), (acc, (((0, 0, 0, 0, 0, ()), ()), (log, (votes, ())))))) =
      some ((n, ()), (((0, 0, 0, 0, 0, ()), ()), (acc ++ ((List.range' i k).filter (fun (i : Nat) => decide ((i : Int) ≠ id))).map (fun (j : Nat) => mg 1 id (j : Int) term log.length (lastT log) 0 [] false), (((id, term, voted, role, commit, ()), ()), (log, (votes, ())))))) := by
  intro k
  induction k with
  | zero =>
    intro i acc h _
    refine loopT_inr ?_
    have : ¬ (i : Int) < n := by omega
    simp only [l69_0_11, this, sumE, sS]
    simp
  | succ k ih =>
    intro i acc h ha
    have hlt : (i : Int) < n := by omega
    rw [range_filter]
    by_cases e : (i : Int) = id
    · rw [show loopT l69_0_11 (((i : Int), n, n, ()), (((id, term, voted, role, commit, ()), ()), (acc, (((0, 0, 0, 0, 0, ()), ()), (log, (votes, ())))))) = loopT l69_0_11 ((((i + 1 : Nat) : Int), n, n, ()), (((id, term, voted, role, commit, ()), ()), (acc, (((0, 0, 0, 0, 0, ()), ()), (log, (votes, ())))))) from loopT_inl (by
        simp only [l69_0_11, hlt, show ((i : Int) != id) = false by simpa using e, sumE, sS, w64_nat (show i ≤ 4294967296 by omega)])]
      rw [ih (i + 1) acc (by omega) (by omega)]
      simp only [show decide ((i : Int) ≠ id) = false by simpa using e, Bool.false_eq_true, if_false]
    · have e75 := m98_eq (rp id term voted role log commit votes []) ⟨hl, hvv, by simp⟩
      simp only [Rep.id, Rep.term, Rep.voted, Rep.role, Rep.log, Rep.commit, Rep.votes, Rep.mtch, rp] at e75
      have hlen : ∀ x : MT, acc.length + [x].length ≤ 4294967296 := by intro x; simp; omega
      rw [show loopT l69_0_11 (((i : Int), n, n, ()), (((id, term, voted, role, commit, ()), ()), (acc, (((0, 0, 0, 0, 0, ()), ()), (log, (votes, ())))))) = loopT l69_0_11 ((((i + 1 : Nat) : Int), n, n, ()), (((id, term, voted, role, commit, ()), ()), (acc ++ [mg 1 id (i : Int) term log.length (lastT log) 0 [] false], (((0, 0, 0, 0, 0, ()), ()), (log, (votes, ())))))) from loopT_inl (by
        simp only [l69_0_11, hlt, show ((i : Int) != id) = true by simpa using e, e75, hlen, sumE, sS, w64_nat (show i ≤ 4294967296 by omega)])]
      rw [ih (i + 1) _ (by omega) (by simp; omega)]
      simp only [show decide ((i : Int) ≠ id) = true by simpa using e, if_true, List.map_cons, List.append_assoc, List.singleton_append]

theorem asks_range (n : Int) (r : RT) : asks n r = ((List.range' 0 n.toNat).filter (fun (i : Nat) => decide ((i : Int) ≠ r.id))).map (fun (j : Nat) => mg 1 r.id (j : Int) (r.term + 1) r.log.length (lastT r.log) 0 [] false) := by
  unfold asks; rw [List.range_eq_range']

theorem m69_eq (n : Int) (r : RT) (hs : Shrt r) : m69 ((n, r, ()), ()) = some (((stand n r).1, ()), (((stand n r).2.1, ()), ((stand n r).2.2, ()))) := by
  unfold m69 stand
  simp only [m84_eq n r hs, m94_eq r hs, Option.bind_some]
  cases hc : chk n r
  · simp only [sumE, sS, Bool.false_eq_true, if_false, Rep.id, Rep.term, Rep.voted, Rep.role, Rep.log, Rep.commit, Rep.votes, Rep.mtch, rp]
  have C := chk_iff.1 hc
  have h1 := C.n1; have h5 := C.n5; have i0 := C.i0; have i1 := C.i1; have t0 := C.t0; have t1 := C.t1
  rw [asks_range]
  obtain ⟨id, term, voted, role, log, commit, votes, mtch, ⟨⟩⟩ := r
  obtain ⟨s1, s2, s3⟩ := hs
  simp only [Rep.id, Rep.term, Rep.voted, Rep.role, Rep.log, Rep.commit, Rep.votes, Rep.mtch, rp] at s1 s2 s3 i0 i1 t0 t1
  simp only [sumE, sS, if_true, Rep.id, Rep.term, Rep.voted, Rep.role, Rep.log, Rep.commit, Rep.votes, Rep.mtch, rp, beq_decide]
  by_cases ht : term = 1048576
  · simp only [ht, sumE, sS, if_true]
  have a1 : (0 : Int) ≤ n ∧ n ≤ n ∧ n ≤ 4294967296 := by omega
  have a2 : (0 : Int) ≤ id ∧ id < ((List.replicate n.toNat false).length : Int) := by simp; omega
  have a3 : id.toNat < (List.replicate n.toNat false).length := by simp; omega
  have w : w64 (term + 1) = term + 1 := w64_id (by omega) (by omega)
  simp only [ht, sumE, sS, if_false, a1, a2, a3, and_self, w]
  have hvv : ((List.replicate n.toNat false).set id.toNat true).length ≤ 4294967295 := by simp; omega
  have := loop23 id (term + 1) id 1 commit log ((List.replicate n.toNat false).set id.toNat true) n s1 hvv (by omega) n.toNat 0 [] (by omega) (by simp)
  rw [show loopT l69_0_11 ((0, (n, (n, ()))), (((id, (term + 1, (id, (1, (commit, ()))))), ()), ([], (((0, (0, (0, (0, (0, ()))))), ()), (log, ((List.replicate n.toNat false).set id.toNat true, ())))))) = _ from this]
  have e77 := m99_eq n (rp id (term + 1) id 1 log commit ((List.replicate n.toNat false).set id.toNat true) []) ⟨s1, hvv, by simp⟩ h1 h5 i0 i1
  simp only [Rep.id, Rep.term, Rep.voted, Rep.role, Rep.log, Rep.commit, Rep.votes, Rep.mtch, rp] at e77
  simp only [Option.bind_some, e77, List.nil_append]
  rw [yes_one' n.toNat (by omega) id.toNat (by omega)]
  unfold standR
  simp only [Rep.id, Rep.term, Rep.voted, Rep.role, Rep.log, Rep.commit, Rep.votes, Rep.mtch, rp]
  have hq := quorum_eq h1 h5
  by_cases hq1 : quorum n = 1
  · rw [if_pos (by omega), if_pos hq1]
  · rw [if_neg (by omega), if_neg hq1]

theorem loop30 (r : RT) (hs : Shrt r) (id term voted role commit : Int) (log : Log OpT) (votes : List Bool) (mt : List Int) (n : Int) (n5 : n ≤ 4294967295) : ∀ (k i : Nat) (acc : List MT), (i : Int) + k = n → acc.length ≤ i →
    loopT l70_0_13 (((i : Int), n, ()), ((r, ()), (((id, term, voted, role, log, commit, votes, ()), ()), (acc, (((0, 0, 0, 0, 0, ()), ()), (mt, ())))))) =
      some ((), (((0, 0, 0, 0, 0, ()), ()), (acc ++ ((List.range' i k).filter (fun (i : Nat) => decide ((i : Int) ≠ r.id))).map (fun (j : Nat) => mg 1 r.id (j : Int) term r.log.length (lastT r.log) 0 [] false), (((id, term, voted, role, log, commit, votes, ()), ()), (mt, ()))))) := by
  intro k
  induction k with
  | zero =>
    intro i acc h _
    refine loopT_inr ?_
    have : ¬ (i : Int) < n := by omega
    simp only [l70_0_13, this, sumE, sS]
    simp
  | succ k ih =>
    intro i acc h ha
    have hlt : (i : Int) < n := by omega
    rw [range_filter]
    by_cases e : (i : Int) = r.id
    · rw [show loopT l70_0_13 (((i : Int), n, ()), ((r, ()), (((id, term, voted, role, log, commit, votes, ()), ()), (acc, (((0, 0, 0, 0, 0, ()), ()), (mt, ())))))) = loopT l70_0_13 ((((i + 1 : Nat) : Int), n, ()), ((r, ()), (((id, term, voted, role, log, commit, votes, ()), ()), (acc, (((0, 0, 0, 0, 0, ()), ()), (mt, ())))))) from loopT_inl (by
        simp only [l70_0_13, hlt, show ((i : Int) != r.1) = false by simpa using e, sumE, sS, w64_nat (show i ≤ 4294967296 by omega)])]
      rw [ih (i + 1) acc (by omega) (by omega)]
      simp only [show decide ((i : Int) ≠ r.id) = false by simpa using e, Bool.false_eq_true, if_false]
    · have hlen : ∀ x : MT, acc.length + [x].length ≤ 4294967296 := by intro x; simp; omega
      rw [show loopT l70_0_13 (((i : Int), n, ()), ((r, ()), (((id, term, voted, role, log, commit, votes, ()), ()), (acc, (((0, 0, 0, 0, 0, ()), ()), (mt, ())))))) = loopT l70_0_13 ((((i + 1 : Nat) : Int), n, ()), ((r, ()), (((id, term, voted, role, log, commit, votes, ()), ()), (acc ++ [mg 1 r.id (i : Int) term r.log.length (lastT r.log) 0 [] false], (((0, 0, 0, 0, 0, ()), ()), (mt, ())))))) from loopT_inl (by
        simp only [l70_0_13, hlt, show ((i : Int) != r.1) = true by simpa using e, m12_eq r hs, hlen, sumE, sS, w64_nat (show i ≤ 4294967296 by omega)])]
      rw [ih (i + 1) _ (by omega) (by simp; omega)]
      simp only [show decide ((i : Int) ≠ r.id) = true by simpa using e, if_true, List.map_cons, List.append_assoc, List.singleton_append]

theorem m70_eq (n : Int) (r : RT) (hs : Shrt r) : m70 ((n, r, ()), ()) = some (((stand n r).1, ()), ((r7 (stand n r).2.1, ()), ((stand n r).2.2, ((stand n r).2.1.mtch, ())))) := by
  unfold m70 stand
  simp only [m59_eq n r hs, m89_eq r hs, m13_eq, Option.bind_some]
  cases hc : chk n r
  · simp only [sumE, sS, Bool.false_eq_true, if_false, Rep.id, Rep.term, Rep.voted, Rep.role, Rep.log, Rep.commit, Rep.votes, Rep.mtch, rp, r7]
  have C := chk_iff.1 hc
  have h1 := C.n1; have h5 := C.n5; have i0 := C.i0; have i1 := C.i1; have t0 := C.t0; have t1 := C.t1
  rw [asks_range]
  have l30 := fun a b c d e f g k => loop30 r hs a b c d e f g k n (by omega) n.toNat 0 [] (by omega) (by simp)
  obtain ⟨id, term, voted, role, log, commit, votes, mtch, ⟨⟩⟩ := r
  obtain ⟨s1, s2, s3⟩ := hs
  simp only [Rep.id, Rep.term, Rep.voted, Rep.role, Rep.log, Rep.commit, Rep.votes, Rep.mtch, rp] at s1 s2 s3 i0 i1 t0 t1 l30
  simp only [sumE, sS, if_true, Rep.id, Rep.term, Rep.voted, Rep.role, Rep.log, Rep.commit, Rep.votes, Rep.mtch, rp, beq_decide]
  by_cases ht : term = 1048576
  · simp only [ht, sumE, sS, if_true, r7]
  have a1 : (0 : Int) ≤ n ∧ n ≤ n ∧ n ≤ 4294967296 := by omega
  have a2 : (0 : Int) ≤ id ∧ id < ((List.replicate n.toNat false).length : Int) := by simp; omega
  have a3 : id.toNat < (List.replicate n.toNat false).length := by simp; omega
  have w : w64 (term + 1) = term + 1 := w64_id (by omega) (by omega)
  simp only [ht, sumE, sS, if_false, a1, a2, a3, and_self, w]
  unfold standR
  simp only [Rep.id, Rep.term, Rep.voted, Rep.role, Rep.log, Rep.commit, Rep.votes, Rep.mtch, rp, r7]
  have e86 := m100_eq n (rp id (term + 1) id 1 log commit ((List.replicate n.toNat false).set id.toNat true) []) h1 h5 i0 i1
  simp only [Rep.id, Rep.term, Rep.voted, Rep.role, Rep.log, Rep.commit, Rep.votes, Rep.mtch, rp, r7, lead] at e86
  by_cases hq1 : quorum n = 1
  · simp only [hq1, sumE, sS, if_true, e86, lead, Rep.id, Rep.term, Rep.voted, Rep.role, Rep.log, Rep.commit, Rep.votes, Rep.mtch, rp]
    rw [show loopT l70_0_13 ((0, (n, ())), (((id, term, voted, role, log, commit, votes, mtch, PUnit.unit), ()), (((id, term + 1, id, 2, log, commit, (List.replicate n.toNat false).set id.toNat true, ()), ()), ([], (((0, (0, (0, (0, (0, ()))))), ()), (((List.replicate n.toNat (0 : Int)).set id.toNat (log.length : Int)), ())))))) = _ from l30 id (term + 1) id 2 commit log _ _]
    simp only [Option.bind_some, List.nil_append]
  · simp only [hq1, sumE, sS, if_false]
    rw [show loopT l70_0_13 ((0, (n, ())), (((id, term, voted, role, log, commit, votes, mtch, PUnit.unit), ()), (((id, term + 1, id, 1, log, commit, (List.replicate n.toNat false).set id.toNat true, ()), ()), ([], (((0, (0, (0, (0, (0, ()))))), ()), ([], ())))))) = _ from l30 id (term + 1) id 1 commit log _ _]
    simp only [Option.bind_some, List.nil_append]

theorem loop37 (id term voted role commit : Int) (log : Log OpT) (votes : List Bool) (mtch : List Int) (n : Int) (hv : (votes.length : Int) = n) (h5 : n ≤ 5) : ∀ (k i : Nat) (c : Int), i + k = votes.length → 0 ≤ c → c ≤ i →
    loopT l75_0_11 (((i : Int), c, n, ()), (((id, term, voted, role, commit, ()), ()), (((0, 0, 0, 0, 0, ()), ()), (log, (votes, (mtch, ())))))) = some ((n, c + yes (votes.drop i), ()), (((0, 0, 0, 0, 0, ()), ()), (((id, term, voted, role, commit, ()), ()), (log, (votes, (mtch, ())))))) := by
  intro k
  induction k with
  | zero =>
    intro i c h _ _
    rw [List.drop_eq_nil_of_le (by omega)]
    refine loopT_inr ?_
    have : ¬ (i : Int) < n := by omega
    simp only [l75_0_11, this, sumE, sS]
    simp [yes]
  | succ k ih =>
    intro i c h c0 c1
    obtain ⟨e, he, hd⟩ := drop_at (l := votes) (i := i) (by omega)
    have hlt : (i : Int) < n := by omega
    have hb : (0 : Int) ≤ i ∧ (i : Int) < (votes.length : Int) := by omega
    rw [hd, yes_cons]
    have hc : w64 (c + 1) = c + 1 := w64_id (by omega) (by omega)
    cases e
    · rw [show loopT l75_0_11 (((i : Int), c, n, ()), (((id, term, voted, role, commit, ()), ()), (((0, 0, 0, 0, 0, ()), ()), (log, (votes, (mtch, ())))))) = loopT l75_0_11 ((((i + 1 : Nat) : Int), c, n, ()), (((id, term, voted, role, commit, ()), ()), (((0, 0, 0, 0, 0, ()), ()), (log, (votes, (mtch, ())))))) from loopT_inl (by
        simp only [l75_0_11, hb, and_self, Int.toNat_natCast, he, hlt, sumE, sS, w64_nat (show i ≤ 4294967296 by omega)])]
      rw [ih (i + 1) c (by omega) (by omega) (by omega)]
      simp
    · rw [show loopT l75_0_11 (((i : Int), c, n, ()), (((id, term, voted, role, commit, ()), ()), (((0, 0, 0, 0, 0, ()), ()), (log, (votes, (mtch, ())))))) = loopT l75_0_11 ((((i + 1 : Nat) : Int), c + 1, n, ()), (((id, term, voted, role, commit, ()), ()), (((0, 0, 0, 0, 0, ()), ()), (log, (votes, (mtch, ())))))) from loopT_inl (by
        simp only [l75_0_11, hb, and_self, Int.toNat_natCast, he, hlt, sumE, sS, w64_nat (show i ≤ 4294967296 by omega), hc])]
      rw [ih (i + 1) (c + 1) (by omega) (by omega) (by omega)]
      simp only [if_true]
      rw [show c + 1 + yes (votes.drop (i + 1)) = c + (1 + yes (votes.drop (i + 1))) by omega]

theorem m75_eq (n : Int) (r : RT) (m : MT) (hs : Shrt r) : m75 ((n, r, m, ()), ()) = some ((), ((voted n r m, ()), ())) := by
  unfold m75 voted
  simp only [m104_eq n r m 2 hs, m89_eq r hs, Option.bind_some]
  cases ho : toOK n r m 2
  · simp only [sumE, sS]; rfl
  obtain ⟨C, _, _, f0, f1, _, _, ht⟩ := toOK_iff.1 ho
  have h1 := C.n1; have h5 := C.n5; have i0 := C.i0; have i1 := C.i1
  have ro := @role1_iff _ n r
  have cro := C.ro
  simp only [sumE, sS, if_true]
  obtain ⟨kind, frm, to, mterm, prev, pterm, mcommit, ents, ok, ⟨⟩⟩ := m
  simp only [Msg.kind, Msg.frm, Msg.to, Msg.term, Msg.prev, Msg.pterm, Msg.commit, Msg.ents, Msg.ok, mg] at f0 f1 ⊢
  rw [show m105 (((r.id, r.term, r.voted, r.role, r.log, r.commit, r.votes, r.mtch, ()), mterm, ()), ()) = some ((), ((fol r mterm, ()), ())) from m105_eq r mterm]
  obtain ⟨id, term, voted, role, log, commit, votes, mtch, ⟨⟩⟩ := r
  obtain ⟨s1, s2, s3⟩ := hs
  simp only [Rep.id, Rep.term, Rep.voted, Rep.role, Rep.log, Rep.commit, Rep.votes, Rep.mtch, rp] at s1 s2 s3 i0 i1 ro
  simp only [Rep.id, Rep.term, Rep.voted, Rep.role, Rep.log, Rep.commit, Rep.votes, Rep.mtch, rp, bne_decide]
  by_cases hgt : mterm > term
  · simp only [hgt, sumE, sS, if_true]
  simp only [hgt, sumE, sS, if_false]
  by_cases hr : role = 1
  · subst hr
    by_cases hmt : mterm = term
    · cases ok
      · simp only [hmt, ne_eq, sumE, sS, not_true_eq_false, decide_false, Bool.false_eq_true, and_false, if_false]
      · obtain ⟨v1, v2, v3⟩ := (ro rfl).1 cro
        have a2 : (0 : Int) ≤ frm ∧ frm < (votes.length : Int) := by omega
        have a3 : frm.toNat < votes.length := by omega
        simp only [hmt, ne_eq, sumE, sS, not_true_eq_false, decide_false, a2, a3, and_self, if_true, m13_eq]
        have hv' : ((votes.set frm.toNat true).length : Int) = n := by simpa using v1
        have := loop37 id term voted 1 commit log (votes.set frm.toNat true) mtch n hv' h5 (votes.set frm.toNat true).length 0 0 (by omega) (by omega) (by omega)
        simp only [List.drop_zero, Int.zero_add] at this
        rw [show loopT l75_0_11 ((0, (0, (n, ()))), (((id, (term, (voted, (1, (commit, ()))))), ()), (((0, (0, (0, (0, (0, ()))))), ()), (log, ((votes.set frm.toNat true), (mtch, ())))))) = _ from this]
        simp only [Option.bind_some, m13_eq]
        unfold votedR
        simp only [Msg.kind, Msg.frm, Msg.to, Msg.term, Msg.prev, Msg.pterm, Msg.commit, Msg.ents, Msg.ok, mg, Rep.id, Rep.term, Rep.voted, Rep.role, Rep.log, Rep.commit, Rep.votes, Rep.mtch, rp]
        have e86 := m100_eq n (rp id term voted 1 log commit (votes.set frm.toNat true) mtch) h1 h5 i0 i1
        simp only [Rep.id, Rep.term, Rep.voted, Rep.role, Rep.log, Rep.commit, Rep.votes, Rep.mtch, rp, r7, lead] at e86
        by_cases hy : yes (votes.set frm.toNat true) ≥ quorum n
        · simp only [hy, sumE, sS, e86, lead, Rep.id, Rep.term, Rep.voted, Rep.role, Rep.log, Rep.commit, Rep.votes, Rep.mtch, rp, if_true]
        · simp only [hy, sumE, sS, if_false]
    · simp only [hmt, ne_eq, sumE, sS, not_false_eq_true, decide_true, false_and, and_false, if_false, not_true_eq_false]
  · simp only [hr, ne_eq, sumE, sS, not_false_eq_true, decide_true, false_and, if_false]

theorem m116_eq (n : Int) (r : RT) (m : MT) (hs : Shrt r) : m116 ((n, r, m, ()), ()) = some ((), ((voted n r m, ()), ())) := by
  unfold m116 voted
  simp only [m94_eq r hs, Option.bind_some]
  rw [show m122 ((n, (r.id, r.term, r.voted, r.role, r.log, r.commit, r.votes, r.mtch, ()), m, 2, ()), ()) = some ((toOK n r m 2, ()), ()) from m122_eq n r m 2 hs]
  cases ho : toOK n r m 2
  · simp only [sumE, sS]; rfl
  obtain ⟨C, _, _, f0, f1, _, _, ht⟩ := toOK_iff.1 ho
  have h1 := C.n1; have h5 := C.n5; have i0 := C.i0; have i1 := C.i1; have t0 := C.t0; have t1 := C.t1
  have ro := @role1_iff _ n r
  have cro := C.ro
  simp only [sumE, sS, if_true]
  obtain ⟨kind, frm, to, mterm, prev, pterm, mcommit, ents, ok, ⟨⟩⟩ := m
  simp only [Msg.kind, Msg.frm, Msg.to, Msg.term, Msg.prev, Msg.pterm, Msg.commit, Msg.ents, Msg.ok, mg] at f0 f1 ht ⊢
  rw [show m123 (((r.id, r.term, r.voted, r.role, r.log, r.commit, r.votes, r.mtch, ()), mterm, ()), ()) = some ((), ((fol r mterm, ()), ())) from m123_eq r mterm ht (by omega) (by omega)]
  obtain ⟨id, term, voted, role, log, commit, votes, mtch, ⟨⟩⟩ := r
  obtain ⟨s1, s2, s3⟩ := hs
  simp only [Rep.id, Rep.term, Rep.voted, Rep.role, Rep.log, Rep.commit, Rep.votes, Rep.mtch, rp] at s1 s2 s3 i0 i1 ro
  simp only [Rep.id, Rep.term, Rep.voted, Rep.role, Rep.log, Rep.commit, Rep.votes, Rep.mtch, rp, bne_decide]
  by_cases hgt : mterm > term
  · simp only [hgt, sumE, sS, if_true]
  simp only [hgt, sumE, sS, if_false]
  by_cases hr : role = 1
  · subst hr
    by_cases hmt : mterm = term
    · cases ok
      · simp only [hmt, ne_eq, sumE, sS, not_true_eq_false, decide_false, Bool.false_eq_true, and_false, if_false]
      · obtain ⟨v1, v2, v3⟩ := (ro rfl).1 cro
        have a2 : (0 : Int) ≤ frm ∧ frm < (votes.length : Int) := by omega
        have a3 : frm.toNat < votes.length := by omega
        simp only [hmt, ne_eq, sumE, sS, not_true_eq_false, decide_false, a2, a3, and_self, if_true]
        have e77 := m99_eq n (rp id term voted 1 log commit (votes.set frm.toNat true) mtch) ⟨s1, by simpa using s2, s3⟩ h1 h5 i0 i1
        simp only [Rep.id, Rep.term, Rep.voted, Rep.role, Rep.log, Rep.commit, Rep.votes, Rep.mtch, rp] at e77
        simp only [e77, Option.bind_some]
        rfl
    · simp only [hmt, ne_eq, sumE, sS, not_false_eq_true, decide_true, false_and, and_false, if_false, not_true_eq_false]
  · simp only [hr, ne_eq, sumE, sS, not_false_eq_true, decide_true, false_and, if_false]

end Go.Proofs.YtfbikpbejkgegaaGreat

namespace Go.Proofs.YtfbikpbejkgegaaGreat
open Go Go.Abs Go.Raft
def hasID (l : Log OpT) (o : OpT) : Bool := l.any (fun e => e.2.1.1 == o.1)

def proposeE (n : Int) (r : RT) (o : OpT) : Int × RT :=
  if chk n r = true then
    if r.role = 2 then (if hasID r.log o = true then (4, zeroR) else if r.log.length < 256 then (0, proposeR n r o) else (5, zeroR)) else (22, zeroR)
  else (8, zeroR)

def restartE (n : Int) (r : RT) : Int × RT := if chk n r = true then (0, restartR r) else (8, zeroR)

def appendsE (n : Int) (r : RT) : List MT := if chk n r = true ∧ r.role = 2 then appends n r else []

theorem loop55 (n : Int) (o : OpT) (r : RT) (hl : r.log.length ≤ 4294967295) : ∀ (k i : Nat), i + k = r.log.length →
    loopT l72_0_6 (((i : Int), n, ()), (((0, 0, 0, 0, 0, ()), ()), ((o, ()), ((r, ()), ())))) = some (if hasID (r.log.drop i) o then .inl ((4, ()), (((0, 0, 0, 0, 0, ()), ()), ())) else .inr ((n, ()), (((0, 0, 0, 0, 0, ()), ()), ((r, ()), ((o, ()), ()))))) := by
  intro k
  induction k with
  | zero =>
    intro i h
    rw [List.drop_eq_nil_of_le (by omega)]
    refine loopT_inr ?_
    have : ¬ (i : Int) < (r.2.2.2.2.1.length : Int) := by show ¬ (i : Int) < (r.log.length : Int); omega
    simp only [l72_0_6, this, sumE, sS, hasID, List.any_nil, Bool.false_eq_true, if_false]
  | succ k ih =>
    intro i h
    obtain ⟨e, he, hd⟩ := drop_at (l := r.log) (i := i) (by omega)
    have hlt : (i : Int) < (r.2.2.2.2.1.length : Int) := by show (i : Int) < (r.log.length : Int); omega
    rw [hd]
    unfold hasID
    rw [List.any_cons]
    cases hq : (e.2.1.1 == o.1)
    · rw [show loopT l72_0_6 (((i : Int), n, ()), (((0, 0, 0, 0, 0, ()), ()), ((o, ()), ((r, ()), ())))) = loopT l72_0_6 ((((i + 1 : Nat) : Int), n, ()), (((0, 0, 0, 0, 0, ()), ()), ((o, ()), ((r, ()), ())))) from loopT_inl (by
        simp only [l72_0_6, rowAt_G, rowG_nat he, hlt, hq, sumE, sS, w64_nat (show i ≤ 4294967296 by omega)])]
      rw [ih (i + 1) (by omega)]
      rfl
    · refine loopT_inr ?_
      simp only [l72_0_6, rowAt_G, rowG_nat he, hlt, hq, sumE, sS]
      rfl

theorem m72_eq (n : Int) (r : RT) (o : OpT) (hs : Shrt r) : m72 ((n, r, o, ()), ()) = some (((proposeE n r o).1, ()), (cpR (proposeE n r o).2).2) := by
  unfold m72 proposeE
  simp only [m59_eq n r hs, Option.bind_some]
  cases hc : chk n r
  · simp only [sumE, sS, Bool.false_eq_true, if_false, Rep.id, Rep.term, Rep.voted, Rep.role, Rep.log, Rep.commit, Rep.votes, Rep.mtch, rp, cpR]
  have C := chk_iff.1 hc
  have h1 := C.n1; have h5 := C.n5; have i0 := C.i0; have i1 := C.i1; have ll := C.ll
  have ro := @role2_iff _ n r
  have cro := C.ro
  simp only [sumE, sS, if_true, bne_decide]
  by_cases hr : r.role = 2
  · simp only [hr, ne_eq, not_true_eq_false, not_false_eq_true, eq_self, sumE, sS, if_true]
    have := loop55 n o r hs.1 r.log.length 0 (by omega)
    rw [List.drop_zero] at this
    rw [show loopT l72_0_6 ((0, (n, ())), (((0, (0, (0, (0, (0, ()))))), ()), ((o, ()), ((r, ()), ())))) = _ from this]
    cases hh : hasID r.log o
    · obtain ⟨v1, v2, v3, v4, v5⟩ := (ro hr).1 cro
      simp only [Option.bind_some, Bool.false_eq_true, if_false, sumE, sS, m89_eq r hs, m13_eq]
      obtain ⟨id, term, voted, role, log, commit, votes, mtch, ⟨⟩⟩ := r
      simp only [Rep.id, Rep.term, Rep.voted, Rep.role, Rep.log, Rep.commit, Rep.votes, Rep.mtch, rp] at ll v3 i0 i1 ⊢
      by_cases hlen : log.length < 256
      · have b1 : ¬ (log.length : Int) ≥ 256 := by omega
        have b2 : ∀ x : Ent OpT, log.length + [x].length ≤ 4294967296 := by intro x; simp; omega
        have b3 : (0 : Int) ≤ id ∧ id < (mtch.length : Int) := by omega
        have b4 : id.toNat < mtch.length := by omega
        simp only [hlen, b1, b2, b3, b4, and_self, sumE, sS, if_true, beq_decide, proposeR, Rep.id, Rep.term, Rep.voted, Rep.role, Rep.log, Rep.commit, Rep.votes, Rep.mtch, rp]
        by_cases hq : quorum n = 1
        · simp only [hq, sumE, sS, if_true]
        · simp only [hq, sumE, sS, if_false]
      · have b1 : (log.length : Int) ≥ 256 := by omega
        simp only [hlen, b1, sumE, sS, if_false]
    · simp only [Option.bind_some, if_true, sumE, sS, cpR, Rep.id, Rep.term, Rep.voted, Rep.role, Rep.log, Rep.commit, Rep.votes, Rep.mtch, rp]
  · simp only [hr, ne_eq, not_true_eq_false, not_false_eq_true, eq_self, sumE, sS, if_false, cpR, Rep.id, Rep.term, Rep.voted, Rep.role, Rep.log, Rep.commit, Rep.votes, Rep.mtch, rp]

theorem m80_eq (n : Int) (r : RT) (hs : Shrt r) : m80 ((n, r, ()), ()) = some (((restartE n r).1, ()), ((cpR (restartE n r).2).2.1, ((restartE n r).2.log, ()))) := by
  unfold m80 restartE
  simp only [m59_eq n r hs, m89_eq r hs, Option.bind_some]
  cases hc : chk n r
  · simp only [sumE, sS, Bool.false_eq_true, if_false, Rep.id, Rep.term, Rep.voted, Rep.role, Rep.log, Rep.commit, Rep.votes, Rep.mtch, rp, cpR]
  · simp only [sumE, sS, if_true, Rep.id, Rep.term, Rep.voted, Rep.role, Rep.log, Rep.commit, Rep.votes, Rep.mtch, rp, cpR, restartR]

/-! ### Appends -/
def appendM (r : RT) (i : Nat) : MT := mg 3 r.id (i : Int) r.term (r.mtch[i]?.getD 0) (ptermAt r.log (r.mtch[i]?.getD 0)) r.commit (r.log.drop (r.mtch[i]?.getD 0).toNat) false

theorem appends_range (n : Int) (r : RT) : appends n r = ((List.range' 0 n.toNat).filter (fun (i : Nat) => decide ((i : Int) ≠ r.id))).map (appendM r) := by
  unfold appends; rw [List.range_eq_range']; rfl

theorem loop57 (n : Int) (id term voted role : Int) (log : Log OpT) (commit : Int) (votes : List Bool) (mtch : List Int) (hl : log.length ≤ 4294967295) (hm : (mtch.length : Int) = n) (n5 : n ≤ 5) (hb : ∀ p ∈ mtch, 0 ≤ p ∧ p ≤ (log.length : Int)) : ∀ (k i : Nat) (acc : List MT), (i : Int) + k = n → acc.length ≤ i →
    loopT l73_0_5 (((i : Int), n, ()), (acc, (((id, term, voted, role, log, commit, votes, mtch, ()), ()), ()))) = some ((), (acc ++ ((List.range' i k).filter (fun (i : Nat) => decide ((i : Int) ≠ id))).map (appendM (id, term, voted, role, log, commit, votes, mtch, ())), ())) := by
  intro k
  induction k with
  | zero =>
    intro i acc h _
    refine loopT_inr ?_
    have : ¬ (i : Int) < n := by omega
    simp only [l73_0_5, this, sumE, sS]
    simp
  | succ k ih =>
    intro i acc h ha
    have hlt : (i : Int) < n := by omega
    rw [range_filter]
    by_cases e : (i : Int) = id
    · rw [show loopT l73_0_5 (((i : Int), n, ()), (acc, (((id, term, voted, role, log, commit, votes, mtch, ()), ()), ()))) = loopT l73_0_5 ((((i + 1 : Nat) : Int), n, ()), (acc, (((id, term, voted, role, log, commit, votes, mtch, ()), ()), ()))) from loopT_inl (by
        simp only [l73_0_5, hlt, beq_decide, decide_eq_true e, sumE, sS, w64_nat (show i ≤ 4294967296 by omega)])]
      rw [ih (i + 1) acc (by omega) (by omega)]
      simp only [show decide ((i : Int) ≠ id) = false by simpa using e, Bool.false_eq_true, if_false]
    · obtain ⟨p, hp⟩ := getD_some (l := mtch) (i := i) (by omega)
      obtain ⟨p0, p1⟩ := hb p (List.mem_of_getElem? hp)
      have hlen : ∀ x : MT, acc.length + [x].length ≤ 4294967296 := by intro x; simp; omega
      have c1 : p.toNat ≤ log.length ∧ log.length ≤ log.length := by omega
      have c2 : 0 + (log.drop p.toNat).length ≤ 4294967296 := by simp; omega
      have c3 : (log.drop p.toNat).take (log.length - p.toNat) = log.drop p.toNat := List.take_of_length_le (by simp)
      have step : l73_0_5 (((i : Int), n, ()), (acc, (((id, term, voted, role, log, commit, votes, mtch, ()), ()), ()))) = some (.inl ((((i + 1 : Nat) : Int), n, ()), (acc ++ [appendM (id, term, voted, role, log, commit, votes, mtch, ()) i], (((id, term, voted, role, log, commit, votes, mtch, ()), ()), ())))) := by
        unfold appendM
        simp only [Rep.id, Rep.term, Rep.voted, Rep.role, Rep.log, Rep.commit, Rep.votes, Rep.mtch, rp, hp, Option.getD_some]
        by_cases hp0 : p > 0
        · have hw : w64 (p - 1) = p - 1 := w64_id (by omega) (by omega)
          obtain ⟨x, hx⟩ := getD_some (l := log) (i := (p - 1).toNat) (by omega)
          simp only [ptermAt, if_pos hp0, hx, Option.map_some, Option.getD_some]
          simp only [l73_0_5, rowAt_G, rowG_nat hp, hw, rowG_int (show 0 ≤ p - 1 by omega) hx, hlt, beq_decide, decide_eq_false e, p0, c1, c2, c3, hp0, hlen, and_self, sumE, sS, w64_nat (show i ≤ 4294967296 by omega)]
        · simp only [ptermAt, if_neg hp0]
          simp only [l73_0_5, rowAt_G, rowG_nat hp, hlt, beq_decide, decide_eq_false e, p0, c1, c2, c3, hp0, hlen, and_self, sumE, sS, w64_nat (show i ≤ 4294967296 by omega)]
      rw [loopT_inl step, ih (i + 1) _ (by omega) (by simp; omega)]
      simp only [show decide ((i : Int) ≠ id) = true by simpa using e, if_true, List.map_cons, List.append_assoc, List.singleton_append]

theorem m73_eq (n : Int) (r : RT) (hs : Shrt r) : m73 ((n, r, ()), ()) = some ((), (appendsE n r, ())) := by
  unfold m73 appendsE
  simp only [m59_eq n r hs, Option.bind_some]
  cases hc : chk n r
  · simp only [sumE, sS, Bool.false_eq_true, false_and, if_false]
  have C := chk_iff.1 hc
  have h1 := C.n1; have h5 := C.n5
  have ro := @role2_iff _ n r
  have cro := C.ro
  rw [appends_range]
  simp only [sumE, sS, bne_decide, true_and]
  by_cases hr : r.role = 2
  · obtain ⟨v1, v2, v3, v4, v5⟩ := (ro hr).1 cro
    simp only [hr, ne_eq, not_true_eq_false, not_false_eq_true, eq_self, sumE, sS, if_true]
    obtain ⟨id, term, voted, role, log, commit, votes, mtch, ⟨⟩⟩ := r
    have := loop57 n id term voted role log commit votes mtch hs.1 v3 h5 v5 n.toNat 0 [] (by omega) (by simp)
    rw [show loopT l73_0_5 ((0, (n, ())), ([], (((id, term, voted, role, log, commit, votes, mtch, PUnit.unit), ()), ()))) = _ from this]
    simp only [Option.bind_some, List.nil_append]
  · simp only [hr, ne_eq, not_true_eq_false, not_false_eq_true, eq_self, sumE, sS, if_false]

theorem loop46 (n : Int) (id term voted role : Int) (log : Log OpT) (commit : Int) (votes : List Bool) (mtch : List Int) (hl : log.length ≤ 4294967295) (hm : (mtch.length : Int) = n) (n5 : n ≤ 5) (hb : ∀ p ∈ mtch, 0 ≤ p ∧ p ≤ (log.length : Int)) : ∀ (k i : Nat) (acc : List MT), (i : Int) + k = n → acc.length ≤ i →
    loopT l58_0_5 (((i : Int), mtch, n, ()), (acc, (((id, term, voted, role, log, commit, votes, mtch, ()), ()), ()))) = some ((), (acc ++ ((List.range' i k).filter (fun (i : Nat) => decide ((i : Int) ≠ id))).map (appendM (id, term, voted, role, log, commit, votes, mtch, ())), ())) := by
  intro k
  induction k with
  | zero =>
    intro i acc h _
    refine loopT_inr ?_
    have : ¬ (i : Int) < n := by omega
    simp only [l58_0_5, this, sumE, sS]
    simp
  | succ k ih =>
    intro i acc h ha
    have hlt : (i : Int) < n := by omega
    obtain ⟨p, hp⟩ := getD_some (l := mtch) (i := i) (by omega)
    rw [range_filter]
    by_cases e : (i : Int) = id
    · rw [show loopT l58_0_5 (((i : Int), mtch, n, ()), (acc, (((id, term, voted, role, log, commit, votes, mtch, ()), ()), ()))) = loopT l58_0_5 ((((i + 1 : Nat) : Int), mtch, n, ()), (acc, (((id, term, voted, role, log, commit, votes, mtch, ()), ()), ()))) from loopT_inl (by
        simp only [l58_0_5, rowAt_G, rowG_nat hp, hlt, beq_decide, decide_eq_true e, sumE, sS, w64_nat (show i ≤ 4294967296 by omega)])]
      rw [ih (i + 1) acc (by omega) (by omega)]
      simp only [show decide ((i : Int) ≠ id) = false by simpa using e, Bool.false_eq_true, if_false]
    · obtain ⟨p0, p1⟩ := hb p (List.mem_of_getElem? hp)
      have hlen : ∀ x : MT, acc.length + [x].length ≤ 4294967296 := by intro x; simp; omega
      have c1 : p.toNat ≤ log.length ∧ log.length ≤ log.length := by omega
      have c3 : (log.drop p.toNat).take (log.length - p.toNat) = log.drop p.toNat := List.take_of_length_le (by simp)
      have c2 : (log.drop p.toNat).length ≤ 4294967296 := by simp; omega
      have step : l58_0_5 (((i : Int), mtch, n, ()), (acc, (((id, term, voted, role, log, commit, votes, mtch, ()), ()), ()))) = some (.inl ((((i + 1 : Nat) : Int), mtch, n, ()), (acc ++ [appendM (id, term, voted, role, log, commit, votes, mtch, ()) i], (((id, term, voted, role, log, commit, votes, mtch, ()), ()), ())))) := by
        unfold appendM
        simp only [Rep.id, Rep.term, Rep.voted, Rep.role, Rep.log, Rep.commit, Rep.votes, Rep.mtch, rp, hp, Option.getD_some]
        by_cases hp0 : p > 0
        · have hw : w64 (p - 1) = p - 1 := w64_id (by omega) (by omega)
          obtain ⟨x, hx⟩ := getD_some (l := log) (i := (p - 1).toNat) (by omega)
          simp only [ptermAt, if_pos hp0, hx, Option.map_some, Option.getD_some]
          simp only [l58_0_5, m65, rowAt_G, rowG_nat hp, hw, rowG_int (show 0 ≤ p - 1 by omega) hx, hlt, beq_decide, decide_eq_false e, p0, c1, c2, c3, hp0, hlen, and_self, sumE, sS, w64_nat (show i ≤ 4294967296 by omega)]
        · simp only [ptermAt, if_neg hp0]
          simp only [l58_0_5, m65, rowAt_G, rowG_nat hp, hlt, beq_decide, decide_eq_false e, p0, c1, c2, c3, hp0, hlen, and_self, sumE, sS, w64_nat (show i ≤ 4294967296 by omega)]
      rw [loopT_inl step, ih (i + 1) _ (by omega) (by simp; omega)]
      simp only [show decide ((i : Int) ≠ id) = true by simpa using e, if_true, List.map_cons, List.append_assoc, List.singleton_append]

theorem m58_eq (n : Int) (r : RT) (hs : Shrt r) : m58 ((n, r, ()), ()) = some ((), (appendsE n r, ())) := by
  unfold m58 appendsE
  simp only [m84_eq n r hs, Option.bind_some]
  cases hc : chk n r
  · simp only [sumE, sS, Bool.false_eq_true, false_and, if_false]
  have C := chk_iff.1 hc
  have h1 := C.n1; have h5 := C.n5
  have ro := @role2_iff _ n r
  have cro := C.ro
  rw [appends_range]
  simp only [sumE, sS, bne_decide, true_and]
  by_cases hr : r.role = 2
  · obtain ⟨v1, v2, v3, v4, v5⟩ := (ro hr).1 cro
    simp only [hr, ne_eq, not_true_eq_false, not_false_eq_true, eq_self, sumE, sS, if_true]
    obtain ⟨id, term, voted, role, log, commit, votes, mtch, ⟨⟩⟩ := r
    have := loop46 n id term voted role log commit votes mtch hs.1 v3 h5 v5 n.toNat 0 [] (by omega) (by simp)
    simp only [Rep.id, Rep.term, Rep.voted, Rep.role, Rep.log, Rep.commit, Rep.votes, Rep.mtch, rp] at v3
    simp only [v3]
    rw [show loopT l58_0_5 ((0, (mtch, (n, ()))), ([], (((id, term, voted, role, log, commit, votes, mtch, PUnit.unit), ()), ()))) = _ from this]
    simp only [Option.bind_some, List.nil_append]
  · simp only [hr, ne_eq, not_true_eq_false, not_false_eq_true, eq_self, sumE, sS, if_false]

end Go.Proofs.YtfbikpbejkgegaaGreat

namespace Go.Proofs.YtfbikpbejkgegaaGreat
open Go Go.Abs Go.Raft
theorem loop_up {A D : Type} {f : A → Option (A ⊕ D)} (st : Nat → A) (d : D) (N : Nat) (h1 : ∀ i, i < N → f (st i) = some (.inl (st (i + 1)))) (h2 : f (st N) = some (.inr d)) : ∀ (k i : Nat), i + k = N → loopT f (st i) = some d := by
  intro k
  induction k with
  | zero => intro i h; rw [show i = N by omega]; exact loopT_inr h2
  | succ k ih => intro i h; rw [loopT_inl (h1 i (by omega))]; exact ih (i + 1) (by omega)

theorem m16_refl (l : Log OpT) (hl : l.length ≤ 4294967295) : m16 ((l, l, ()), ()) = some ((true, ()), ()) := by
  unfold m16
  simp only [sumE, sS]
  rw [show loopT l16_0_4 ((0, (l, (l, ()))), ()) = some (.inr ((), ())) from loop_up (fun i => (((i : Int), l, l, ()), ())) _ l.length (fun i hi => by
      obtain ⟨e, he⟩ := getD_some hi
      have hlt : (i : Int) < (l.length : Int) := by omega
      simp only [l16_0_4, rowAt_G, rowG_nat he, hlt, sumE, sS, w64_nat (show i ≤ 4294967296 by omega)]) (by
      have : ¬ (l.length : Int) < (l.length : Int) := by omega
      simp only [l16_0_4, this, sumE, sS]) l.length 0 (by omega)]
  simp only [sumE, sS]

end Go.Proofs.YtfbikpbejkgegaaGreat

namespace Go.Proofs.YtfbikpbejkgegaaGreat
open Go Go.Abs Go.Raft
theorem take_at {A : Type} {l : List A} {i : Nat} {e : A} (h : l[i]? = some e) : l.take (i + 1) = l.take i ++ [e] := by
  rw [List.take_add_one, h]; rfl

/-! ### The joined log -/
theorem agree_cons (x y : Ent OpT) (l e : Log OpT) : agree (x :: l) (y :: e) = if x.1 = y.1 then agree l e + 1 else 0 := rfl

theorem agree_nil (e : Log OpT) : agree [] e = 0 := by cases e <;> rfl

theorem agree_nil' (l : Log OpT) : agree l [] = 0 := by cases l <;> rfl

/-- From which place on, if the first ones agree. -/
def from_ (l : Log OpT) (p : Nat) (e : Log OpT) (i : Nat) : Nat := i + agree (l.drop (p + i)) (e.drop i)

theorem from_step {l e : Log OpT} {p i : Nat} {x y : Ent OpT} (hx : l[p + i]? = some x) (hy : e[i]? = some y) : from_ l p e i = if x.1 = y.1 then from_ l p e (i + 1) else i := by
  unfold from_
  obtain ⟨h1, h1'⟩ := List.getElem?_eq_some_iff.1 hx
  obtain ⟨h2, h2'⟩ := List.getElem?_eq_some_iff.1 hy
  rw [List.drop_eq_getElem_cons h1, List.drop_eq_getElem_cons h2, agree_cons, h1', h2']
  split
  · rw [show p + i + 1 = p + (i + 1) by omega]; omega
  · omega

theorem from_out {l e : Log OpT} {p i : Nat} (h : l.length ≤ p + i) : from_ l p e i = i := by
  unfold from_; rw [List.drop_eq_nil_of_le h, agree_nil]; omega

theorem from_end {l e : Log OpT} {p i : Nat} (h : e.length ≤ i) : from_ l p e i = i := by
  unfold from_; rw [List.drop_eq_nil_of_le h, agree_nil']; omega

theorem loop94 (l ents : Log OpT) (p : Nat) (hl : l.length ≤ 1000000000) (he : ents.length ≤ 1000000000) : ∀ (k i : Nat), i + k = ents.length → p + i ≤ l.length →
    loopT l106_0_2 (((i : Int), ents, l, (p : Int), ()), ()) = some (if from_ l p ents i = ents.length then .inr ((l, ()), ()) else .inl ((((p + from_ l p ents i : Nat) : Int), ()), (l.take (p + from_ l p ents i) ++ ents.drop (from_ l p ents i), ()))) := by
  intro k
  induction k with
  | zero =>
    intro i h hp
    rw [from_end (by omega), if_pos (by omega)]
    refine loopT_inr ?_
    have : ¬ (i : Int) < (ents.length : Int) := by omega
    simp only [l106_0_2, this, sumE, sS]
  | succ k ih =>
    intro i h hp
    have hlt : (i : Int) < (ents.length : Int) := by omega
    have hw : w64 ((p : Int) + (i : Int)) = ((p + i : Nat) : Int) := by rw [w64_id (by omega) (by omega)]; omega
    obtain ⟨y, hy⟩ := getD_some (l := ents) (i := i) (by omega)
    have b1 : (0 : Int) ≤ ((p + i : Nat) : Int) := by omega
    have b2 : 0 ≤ p + i ∧ p + i ≤ l.length := by omega
    have b3 : 0 + (l.take (p + i)).length ≤ 4294967296 := by simp; omega
    have b4 : (0 : Int) ≤ (i : Int) := by omega
    have b5 : i ≤ ents.length ∧ ents.length ≤ ents.length := by omega
    have b6 : (ents.drop i).take (ents.length - i) = ents.drop i := List.take_of_length_le (by simp)
    have b7 : (l.take (p + i)).length + (ents.drop i).length ≤ 4294967296 := by simp; omega
    by_cases hin : p + i < l.length
    · obtain ⟨x, hx⟩ := getD_some (l := l) (i := p + i) hin
      have hge : ¬ ((p + i : Nat) : Int) ≥ (l.length : Int) := by omega
      have hmin : ¬ (l.length : Int) < ((p + i : Nat) : Int) := by omega
      rw [from_step hx hy]
      by_cases hxy : x.1 = y.1
      · rw [if_pos hxy]
        rw [show loopT l106_0_2 (((i : Int), ents, l, (p : Int), ()), ()) = loopT l106_0_2 ((((i + 1 : Nat) : Int), ents, l, (p : Int), ()), ()) from loopT_inl (by
          simp only [l106_0_2, hw, hlt, hge, rowAt_G, rowG_nat hx, rowG_nat hy, bne_decide, decide_eq_false (show ¬ x.1 ≠ y.1 by simpa using hxy), sumE, sS, w64_nat (show i ≤ 4294967296 by omega)])]
        exact ih (i + 1) (by omega) (by omega)
      · rw [if_neg hxy, if_neg (by omega)]
        refine loopT_inr ?_
        simp only [l106_0_2, hw, hlt, hge, rowAt_G, rowG_nat hx, rowG_nat hy, bne_decide, decide_eq_true (show x.1 ≠ y.1 from hxy), sumE, sS]
        simp only [hmin, if_false, b1, Int.toNat_natCast, b2, b3, b4, b5, b6, b7, and_self, sumE, sS]
    · have hge : ((p + i : Nat) : Int) ≥ (l.length : Int) := by omega
      have hmin : ¬ (l.length : Int) < ((p + i : Nat) : Int) := by omega
      rw [from_out (by omega), if_neg (by omega)]
      refine loopT_inr ?_
      simp only [l106_0_2, hw, hlt, hge, sumE, sS, hmin, if_false, b1, Int.toNat_natCast, b2, b3, b4, b5, b6, b7, and_self]

theorem joined_from (l ents : Log OpT) (p : Nat) : joined l p ents = if from_ l p ents 0 = ents.length then (l, l.length) else (l.take (p + from_ l p ents 0) ++ ents.drop (from_ l p ents 0), p + from_ l p ents 0) := by
  unfold joined from_
  simp only [Nat.add_zero, List.drop_zero, Nat.zero_add]

theorem m106_eq (l ents : Log OpT) (p : Nat) (hl : l.length ≤ 1000000000) (he : ents.length ≤ 1000000000) (hp : p ≤ l.length) :
    m106 ((l, (p : Int), ents, ()), ()) = some ((((joined l p ents).2 : Int), ()), ((joined l p ents).1, ())) := by
  unfold m106
  rw [joined_from]
  have := loop94 l ents p hl he ents.length 0 (by omega) (by omega)
  rw [show loopT l106_0_2 ((0, (ents, (l, ((p : Int), ())))), ()) = _ from this]
  have b3 : 0 + l.length ≤ 4294967296 := by omega
  by_cases h : from_ l p ents 0 = ents.length
  · simp only [if_pos h, sumE, sS, b3]
  · simp only [if_neg h, sumE, sS]

theorem loop93 (r : RT) (m : MT) (p : Nat) (hpm : m.prev = (p : Int)) (hl : r.log.length ≤ 1000000000) (he : m.ents.length ≤ 1000000000) : ∀ (k i : Nat), i + k = m.ents.length → p + i ≤ r.log.length →
    loopT l126_0_2 (((i : Int), ()), ((r, ()), ((m, ()), ()))) = some ((((from_ r.log p m.ents i : Nat) : Int), ()), ((r, ()), ((m, ()), ()))) := by
  obtain ⟨kind, frm, to, mterm, prev, pterm, mcommit, ents, ok, ⟨⟩⟩ := m
  simp only [Msg.kind, Msg.frm, Msg.to, Msg.term, Msg.prev, Msg.pterm, Msg.commit, Msg.ents, Msg.ok, mg] at hpm he ⊢
  subst hpm
  intro k
  induction k with
  | zero =>
    intro i h hp
    rw [from_end (by omega)]
    refine loopT_inr ?_
    have : ¬ (i : Int) < (ents.length : Int) := by omega
    simp only [l126_0_2, this, sumE, sS]
  | succ k ih =>
    intro i h hp
    have hlt : (i : Int) < (ents.length : Int) := by omega
    have hw : w64 ((p : Int) + (i : Int)) = ((p + i : Nat) : Int) := by rw [w64_id (by omega) (by omega)]; omega
    obtain ⟨y, hy⟩ := getD_some (l := ents) (i := i) (by omega)
    by_cases hin : p + i < r.log.length
    · obtain ⟨x, hx⟩ := getD_some (l := r.log) (i := p + i) hin
      have hge : ((p + i : Nat) : Int) < (r.2.2.2.2.1.length : Int) := by show ((p + i : Nat) : Int) < (r.log.length : Int); omega
      rw [from_step hx hy]
      by_cases hxy : x.1 = y.1
      · rw [if_pos hxy]
        rw [show loopT l126_0_2 (((i : Int), ()), ((r, ()), (((kind, frm, to, mterm, (p : Int), pterm, mcommit, ents, ok, PUnit.unit), ()), ()))) = loopT l126_0_2 ((((i + 1 : Nat) : Int), ()), ((r, ()), (((kind, frm, to, mterm, (p : Int), pterm, mcommit, ents, ok, PUnit.unit), ()), ()))) from loopT_inl (by
          simp only [l126_0_2, hw, hlt, hge, rowAt_G, rowG_nat hx, rowG_nat hy, beq_decide, decide_eq_true hxy, sumE, sS, w64_nat (show i ≤ 4294967296 by omega)])]
        exact ih (i + 1) (by omega) (by omega)
      · rw [if_neg hxy]
        refine loopT_inr ?_
        simp only [l126_0_2, hw, hlt, hge, rowAt_G, rowG_nat hx, rowG_nat hy, beq_decide, decide_eq_false hxy, sumE, sS]
    · have hge : ¬ ((p + i : Nat) : Int) < (r.2.2.2.2.1.length : Int) := by show ¬ ((p + i : Nat) : Int) < (r.log.length : Int); omega
      rw [from_out (by omega)]
      refine loopT_inr ?_
      simp only [l126_0_2, hw, hlt, hge, sumE, sS]

theorem loop93b (r : RT) (m : MT) (at_ : Int) (log : Log OpT) (hl : log.length ≤ 4294967295) : ∀ (k i : Nat) (last : Int), i + k = log.length →
    loopT l126_0_10 (((i : Int), last, log, log, at_, (log.length : Int), ()), ((m, ()), ((r, ()), ()))) = some (if srt m.term last (log.drop i) then .inr ((log, at_, ()), ((r, ()), ())) else .inl ((false, ()), ([], ()))) := by
  obtain ⟨kind, frm, to, mterm, prev, pterm, mcommit, ents, ok, ⟨⟩⟩ := m
  simp only [Msg.kind, Msg.frm, Msg.to, Msg.term, Msg.prev, Msg.pterm, Msg.commit, Msg.ents, Msg.ok, mg]
  intro k
  induction k with
  | zero =>
    intro i last h
    rw [List.drop_eq_nil_of_le (by omega)]
    refine loopT_inr ?_
    have : ¬ (i : Int) < (log.length : Int) := by omega
    simp only [l126_0_10, this, sumE, sS, srt, if_true]
  | succ k ih =>
    intro i last h
    obtain ⟨e, he, hd⟩ := drop_at (l := log) (i := i) (by omega)
    have hlt : (i : Int) < (log.length : Int) := by omega
    rw [hd, srt]
    by_cases h1 : last ≤ e.1
    · by_cases h2 : e.1 ≤ mterm
      · rw [show loopT l126_0_10 (((i : Int), last, log, log, at_, (log.length : Int), ()), (((kind, frm, to, mterm, prev, pterm, mcommit, ents, ok, PUnit.unit), ()), ((r, ()), ()))) = loopT l126_0_10 ((((i + 1 : Nat) : Int), e.1, log, log, at_, (log.length : Int), ()), (((kind, frm, to, mterm, prev, pterm, mcommit, ents, ok, PUnit.unit), ()), ((r, ()), ()))) from loopT_inl (by
          have h1' : ¬ e.1 < last := by omega
          have h2' : ¬ e.1 > mterm := by omega
          simp only [l126_0_10, rowAt_G, rowG_nat he, hlt, h1', h2', w64_nat (show i ≤ 4294967296 by omega), sumE, sS])]
        rw [ih (i + 1) e.1 (by omega)]
        simp only [h1, h2, sumE, sS]
      · rw [show (decide (last ≤ e.1) && decide (e.1 ≤ mterm) && srt mterm e.1 (log.drop (i + 1))) = false by simp [h2]]
        refine loopT_inr ?_
        have h1' : ¬ e.1 < last := by omega
        have h2' : e.1 > mterm := by omega
        simp only [l126_0_10, rowAt_G, rowG_nat he, hlt, h1', h2', sumE, sS]
        rfl
    · rw [show (decide (last ≤ e.1) && decide (e.1 ≤ mterm) && srt mterm e.1 (log.drop (i + 1))) = false by simp [h1]]
      refine loopT_inr ?_
      have h1' : e.1 < last := by omega
      simp only [l126_0_10, rowAt_G, rowG_nat he, hlt, h1', sumE, sS]
      rfl

/-- What the program's joined returns. -/
def joinedE (r : RT) (m : MT) : Log OpT × Bool :=
  let j := joined r.log m.prev.toNat m.ents
  if from_ r.log m.prev.toNat m.ents 0 = m.ents.length then (j.1, true)
  else if srt m.term 1 j.1 = true then (j.1, decide ((j.2 : Int) ≥ r.commit) && decide (j.1.length ≤ 256)) else ([], false)

theorem bind_of {A B : Type} {o : Option A} {f : A → Option B} {y : Option B} (x : A) (h : o = some x) (h2 : f x = y) : o.bind f = y := by rw [h]; exact h2

theorem m126_eq (r : RT) (m : MT) (hl : r.log.length ≤ 1000000000) (he : m.ents.length ≤ 1000000000) (h0 : 0 ≤ m.prev) (hp : m.prev ≤ r.log.length) :
    m126 ((r, m, ()), ()) = some (((joinedE r m).1, ((joinedE r m).2, ())), ()) := by
  unfold m126 joinedE
  have hpm : m.prev = ((m.prev.toNat : Nat) : Int) := by omega
  rw [joined_from]
  generalize m.prev.toNat = p at hpm
  have hl1 := loop93 r m p hpm hl he m.ents.length 0 (by omega) (by omega)
  have hl2 := fun at_ log h => loop93b r m at_ log h log.length 0 1 (by omega)
  rw [show loopT l126_0_2 ((0, ()), ((r, ()), ((m, ()), ()))) = _ from hl1]
  obtain ⟨kind, frm, to, mterm, prev, pterm, mcommit, ents, ok, ⟨⟩⟩ := m
  obtain ⟨id, term, voted, role, log, commit, votes, mtch, ⟨⟩⟩ := r
  simp only [Msg.kind, Msg.frm, Msg.to, Msg.term, Msg.prev, Msg.pterm, Msg.commit, Msg.ents, Msg.ok, mg, Rep.id, Rep.term, Rep.voted, Rep.role, Rep.log, Rep.commit, Rep.votes, Rep.mtch, rp] at hpm he hl hp hl2 ⊢
  subst hpm
  have hfl : from_ log p ents 0 ≤ ents.length ∧ p + from_ log p ents 0 ≤ log.length := by
    have := agree_le (log.drop p) ents
    simp only [List.length_drop] at this
    unfold from_
    simp only [Nat.add_zero, List.drop_zero, Nat.zero_add]
    omega
  generalize from_ log p ents 0 = s at hfl
  simp only [Option.bind_some, beq_decide]
  by_cases hs : s = ents.length
  · have : (s : Int) = (ents.length : Int) := by omega
    simp only [decide_eq_true this, if_pos hs, sumE, sS]
  · have hs' : ¬ (s : Int) = (ents.length : Int) := by omega
    have hw : w64 ((p : Int) + (s : Int)) = ((p + s : Nat) : Int) := by rw [w64_id (by omega) (by omega)]; omega
    have b1 : (0 : Int) ≤ ((p + s : Nat) : Int) := by omega
    have b2 : 0 ≤ p + s ∧ p + s = p + s ∧ p + s ≤ log.length := by omega
    have b3 : (0 : Int) ≤ (s : Int) := by omega
    have b4 : s ≤ ents.length ∧ ents.length ≤ ents.length := by omega
    have b6 : (ents.drop s).take (ents.length - s) = ents.drop s := List.take_of_length_le (by simp)
    have b5 : 0 < (ents.drop s).length := by simp; omega
    have b7 : (log.take (p + s)).length + (ents.drop s).length ≤ 4294967296 := by simp; omega
    have b8 : (log.take (p + s) ++ ents.drop s).length ≤ 4294967295 := by simp; omega
    have hin : from_ log p ents 0 = from_ log p ents 0 := rfl
    simp only [decide_eq_false hs', if_neg hs, sumE, sS, hw, b1, b3, Int.toNat_natCast, b2, b4, b6, and_self]
    refine bind_of (((log.take (p + s) ++ ents.drop s), (((p + s : Nat) : Int), ())), (((kind, frm, to, mterm, (p : Int), pterm, mcommit, ents, ok, ()), ()), (((id, term, voted, role, log, commit, votes, mtch, ()), ()), ()))) ?_ ?_
    · have b7' : decide ((log.take (p + s)).length + (ents.drop s).length ≤ 4294967296) = true := decide_eq_true b7
      simp only [b7', sumE, sS]
      generalize log.take (p + s) = u
      generalize ents.drop s = v
      cases u with
      | nil => rfl
      | cons a u => cases v with
        | nil => simp only [List.isEmpty_cons, List.isEmpty_nil, List.append_nil, sumE, sS]
        | cons b v => rfl
    simp only []
    rw [show loopT l126_0_10 ((0, (1, ((log.take (p + s) ++ ents.drop s), ((log.take (p + s) ++ ents.drop s), (((p + s : Nat) : Int), (((log.take (p + s) ++ ents.drop s).length : Int), ())))))), (((kind, frm, to, mterm, (p : Int), pterm, mcommit, ents, ok, ()), ()), (((id, term, voted, role, log, commit, votes, mtch, ()), ()), ()))) = _ from hl2 _ _ b8]
    rw [List.drop_zero]
    cases hsr : srt mterm 1 (log.take (p + s) ++ ents.drop s)
    · simp only [Bool.false_eq_true, if_false, sumE, sS]
    · simp only [if_true, sumE, sS]
      by_cases hc : ((p + s : Nat) : Int) ≥ commit
      · simp only [decide_eq_true hc, sumE, sS]
        by_cases h256 : (log.take (p + s) ++ ents.drop s).length ≤ 256
        · have : ((log.take (p + s) ++ ents.drop s).length : Int) ≤ 256 := by omega
          simp only [decide_eq_true this, decide_eq_true h256]
        · have : ¬ ((log.take (p + s) ++ ents.drop s).length : Int) ≤ 256 := by omega
          simp only [decide_eq_false this, decide_eq_false h256]
      · simp only [decide_eq_false hc, sumE, sS]

theorem m125_eq (r : RT) (m : MT) (hl : r.log.length ≤ 1000000000) (h0 : 0 ≤ m.prev) : m125 ((r, m, ()), ()) = some ((fits r m, ()), ()) := by
  obtain ⟨kind, frm, to, mterm, prev, pterm, mcommit, ents, ok, ⟨⟩⟩ := m
  obtain ⟨id, term, voted, role, log, commit, votes, mtch, ⟨⟩⟩ := r
  simp only [Msg.kind, Msg.frm, Msg.to, Msg.term, Msg.prev, Msg.pterm, Msg.commit, Msg.ents, Msg.ok, mg, Rep.id, Rep.term, Rep.voted, Rep.role, Rep.log, Rep.commit, Rep.votes, Rep.mtch, rp] at hl h0
  unfold m125 fits
  simp only [Msg.kind, Msg.frm, Msg.to, Msg.term, Msg.prev, Msg.pterm, Msg.commit, Msg.ents, Msg.ok, mg, Rep.id, Rep.term, Rep.voted, Rep.role, Rep.log, Rep.commit, Rep.votes, Rep.mtch, rp, beq_decide, bne_decide]
  rcases Bool.eq_false_or_eq_true (decide (mterm = term)) with h1 | h1 <;> simp only [h1, sumE, sS]
  rcases Bool.eq_false_or_eq_true (decide (role ≠ 2)) with h2 | h2 <;> simp only [h2, sumE, sS]
  by_cases h3 : prev ≤ (log.length : Int)
  · simp only [decide_eq_true h3, sumE, sS]
    by_cases h4 : prev = 0
    · simp only [decide_eq_true h4, sumE, sS, Bool.true_or]
    · have hw : w64 (prev - 1) = prev - 1 := w64_id (by omega) (by omega)
      obtain ⟨x, hx⟩ := getD_some (l := log) (i := (prev - 1).toNat) (by omega)
      simp only [decide_eq_false h4, sumE, sS, Bool.false_or, hw, rowAt_G, rowG_int (show 0 ≤ prev - 1 by omega) hx, ptermAt, if_pos (show prev > 0 by omega), hx, Option.map_some, Option.getD_some]
  · simp only [decide_eq_false h3, sumE, sS]

end Go.Proofs.YtfbikpbejkgegaaGreat

namespace Go.Proofs.YtfbikpbejkgegaaGreat
open Go Go.Abs Go.Raft
abbrev z5 : (Int × Int × Int × Int × Int × Unit) × Unit := ((0, 0, 0, 0, 0, ()), ())

abbrev z8 : (Int × Int × Int × Int × Int × Int × Int × Bool × Unit) × Unit := ((0, 0, 0, 0, 0, 0, 0, false, ()), ())

theorem shrt_back {r : RT} (t : Int) (hs : Shrt r) : Shrt (back r t) := by
  have := shrt_follow t hs
  unfold back
  simp only
  split
  · exact ⟨this.1, Nat.zero_le _, this.2.2⟩
  · exact this

theorem back_id (r : RT) (t : Int) : (back r t).id = r.id := by
  unfold back fol; simp only; split <;> split <;> rfl

theorem maxmin (c mc e : Int) : (if (if e < mc then e else mc) > c then (if e < mc then e else mc) else c) = max c (min mc e) := by
  split <;> split <;> omega

theorem decide_neg (x : Int) : decide (x < 0) = !decide (0 ≤ x) := by
  by_cases h : 0 ≤ x
  · rw [decide_eq_true h, decide_eq_false (by omega)]; rfl
  · rw [decide_eq_false h, decide_eq_true (by omega)]; rfl

theorem m76_eq (n : Int) (r : RT) (m : MT) (hs : Shrt r) (hm : m.ents.length ≤ 1000000) : m76 ((n, r, m, ()), ()) = some (((accept n r m).2.2, ()), (((accept n r m).1, ()), ((nm (accept n r m).2.1, ()), ()))) := by
  unfold m76
  simp only [m104_eq n r m 3 hs, Option.bind_some]
  unfold accept acceptable
  cases ho : toOK n r m 3
  · simp only [sumE, sS, Bool.false_eq_true, if_false, m89_eq r hs]; rfl
  obtain ⟨C, _, _, _, _, _, mt1, mt2⟩ := toOK_iff.1 ho
  have hbc := chk_back (t := m.term) C mt2
  simp only [sumE, sS, decide_neg]
  have e89 := m105_eq r m.term
  have hbs := shrt_back m.term hs
  have hbid := back_id r m.term
  have hbe : back r m.term = back r m.term := rfl
  generalize hbx : back r m.term = x at hbe hbs hbid hbc
  obtain ⟨kind, frm, to, mterm, prev, pterm, mcommit, ents, ok, ⟨⟩⟩ := m
  simp only [Msg.kind, Msg.frm, Msg.to, Msg.term, Msg.prev, Msg.pterm, Msg.commit, Msg.ents, Msg.ok, mg] at hm hbx e89 mt1 mt2 ⊢
  rcases Bool.eq_false_or_eq_true (decide (0 ≤ prev)) with h1 | h1 <;> simp only [h1, sumE, sS]
  rotate_left
  · simp only [Bool.false_eq_true, if_false, m89_eq r hs]; rfl
  rcases Bool.eq_false_or_eq_true (decide (0 ≤ pterm)) with h2 | h2 <;> simp only [h2, sumE, sS]
  rotate_left
  · simp only [Bool.false_eq_true, if_false, m89_eq r hs]; rfl
  rcases Bool.eq_false_or_eq_true (decide (0 ≤ mcommit)) with h3 | h3 <;> simp only [h3, sumE, sS]
  rotate_left
  · simp only [Bool.false_eq_true, if_false, m89_eq r hs]; rfl
  simp only [if_true, m89_eq r hs, Option.bind_some, e89]
  have hp0 := of_decide_eq_true h1
  clear h1 h2 h3 ho
  refine bind_of ((), (z5, (z8, ((x, ()), ((r, ()), (((kind, frm, to, mterm, prev, pterm, mcommit, ents, ok, ()), ()), ())))))) ?_ ?_
  · rw [← hbx]
    unfold back
    generalize fol r mterm = y
    obtain ⟨id, term, voted, role, log, commit, votes, mtch, ⟨⟩⟩ := y
    simp only [Rep.id, Rep.term, Rep.voted, Rep.role, Rep.log, Rep.commit, Rep.votes, Rep.mtch, rp, beq_decide]
    by_cases c1 : role = 1
    · by_cases c2 : term = mterm
      · simp only [c1, c2, sumE, sS, ne_eq, not_true_eq_false, not_false_eq_true, eq_self, and_self, if_true]
      · simp only [c1, c2, sumE, sS, ne_eq, not_true_eq_false, not_false_eq_true, eq_self, and_false, if_false]
    · simp only [c1, sumE, sS, ne_eq, not_true_eq_false, not_false_eq_true, eq_self, false_and, if_false]
  have hll := hbc.ll
  have hfx : ∀ q : MT, q = (kind, frm, to, mterm, prev, pterm, mcommit, ents, ok, ()) → fits x q = fits x (kind, frm, to, mterm, prev, pterm, mcommit, ents, ok, ()) := fun q e => by rw [e]
  generalize hff : fits x (kind, frm, to, mterm, prev, pterm, mcommit, ents, ok, ()) = f at hfx
  obtain ⟨id, term, voted, role, log, commit, votes, mtch, ⟨⟩⟩ := x
  simp only [Rep.id, Rep.term, Rep.voted, Rep.role, Rep.log, Rep.commit, Rep.votes, Rep.mtch, rp] at hbid hll
  refine bind_of ((f, ()), (z5, (z8, (((id, term, voted, role, log, commit, votes, mtch, ()), ()), ((r, ()), (((kind, frm, to, mterm, prev, pterm, mcommit, ents, ok, ()), ()), ())))))) ?_ ?_
  · rw [← hff]
    unfold fits
    simp only [Msg.kind, Msg.frm, Msg.to, Msg.term, Msg.prev, Msg.pterm, Msg.commit, Msg.ents, Msg.ok, mg, Rep.id, Rep.term, Rep.voted, Rep.role, Rep.log, Rep.commit, Rep.votes, Rep.mtch, rp, beq_decide, bne_decide]
    rcases Bool.eq_false_or_eq_true (decide (mterm = term)) with h1 | h1 <;> simp only [h1, sumE, sS]
    rcases Bool.eq_false_or_eq_true (decide (role ≠ 2)) with h2 | h2 <;> simp only [h2, sumE, sS]
    by_cases h3 : prev ≤ (log.length : Int)
    · simp only [decide_eq_true h3, sumE, sS]
      by_cases h4 : prev = 0
      · simp only [decide_eq_true h4, sumE, sS, Bool.true_or]
      · have hw : w64 (prev - 1) = prev - 1 := w64_id (by omega) (by omega)
        obtain ⟨y, hy⟩ := getD_some (l := log) (i := (prev - 1).toNat) (by omega)
        simp only [decide_eq_false h4, sumE, sS, Bool.false_or, hw, rowAt_G, rowG_int (show 0 ≤ prev - 1 by omega) hy, ptermAt, if_pos (show prev > 0 by omega), hy, Option.map_some, Option.getD_some]
    · simp only [decide_eq_false h3, sumE, sS]
  cases f
  · simp only [sumE, sS, Bool.false_eq_true, if_false, hff, hbid]
  have hpl : prev ≤ (log.length : Int) := by
    simp only [fits, Bool.and_eq_true, decide_eq_true_eq, Msg.kind, Msg.frm, Msg.to, Msg.term, Msg.prev, Msg.pterm, Msg.commit, Msg.ents, Msg.ok, mg, Rep.id, Rep.term, Rep.voted, Rep.role, Rep.log, Rep.commit, Rep.votes, Rep.mtch, rp] at hff
    exact hff.1.2
  simp only [sumE, sS, hff, if_true]
  have e94 := m106_eq log ents prev.toNat (by omega) (by omega) (by omega)
  rw [Int.toNat_of_nonneg hp0] at e94
  rw [e94]
  have hje := joined_end (e := ents) (show prev.toNat ≤ log.length by omega)
  have hjl : (joined log prev.toNat ents).1.length ≤ 4294967295 := by
    rw [joined_from]
    split
    · simp only; omega
    · simp; omega
  generalize joined log prev.toNat ents = j at hjl
  obtain ⟨jl, jk⟩ := j
  simp only [Option.bind_some, m95_eq jl mterm hjl]
  have hw : w64 (prev + (ents.length : Int)) = prev + (ents.length : Int) := w64_id (by omega) (by omega)
  refine bind_of ((!(logFits jl mterm && decide (commit ≤ (jk : Int))), ()), (z5, (z8, ((r, ()), (((4, r.id, frm, term, 0, 0, 0, false, ()), ()), (((id, term, voted, role, log, commit, votes, mtch, ()), ()), (((kind, frm, to, mterm, prev, pterm, mcommit, ents, ok, ()), ()), (jl, ())))))))) ?_ ?_
  · cases logFits jl mterm
    · simp only [sumE, sS]
    · simp only [sumE, sS]
      by_cases hc : commit ≤ (jk : Int)
      · simp only [decide_eq_true hc, decide_eq_false (show ¬ (jk : Int) < commit by omega), sumE, sS]
      · simp only [decide_eq_false hc, decide_eq_true (show (jk : Int) < commit by omega), sumE, sS]
  cases hlf : (logFits jl mterm && decide (commit ≤ (jk : Int)))
  · simp only [sumE, sS, Bool.false_eq_true, if_false, m89_eq r hs]; rfl
  · simp only [sumE, sS, if_true, hw, maxmin, hbid]

theorem m117_eq (n : Int) (r : RT) (m : MT) (hs : Shrt r) (hm : m.ents.length ≤ 1000000) : m117 ((n, r, m, ()), ()) = some (((accept n r m).2.2, ()), (((accept n r m).1, ()), ((nm (accept n r m).2.1, ()), ()))) := by
  unfold m117
  simp only [m122_eq n r m 3 hs, m94_eq r hs, Option.bind_some]
  unfold accept acceptable
  cases ho : toOK n r m 3
  · simp only [sumE, sS, Bool.false_eq_true, if_false]; rfl
  obtain ⟨C, _, _, _, _, _, mt1, mt2⟩ := toOK_iff.1 ho
  have hbc := chk_back (t := m.term) C mt2
  simp only [sumE, sS, decide_neg]
  have e79 := m123_eq r m.term mt2 (by have := C.t0; omega) (by have := C.t1; omega)
  have hbs := shrt_back m.term hs
  have hbid := back_id r m.term
  have hbe : back r m.term = back r m.term := rfl
  generalize hbx : back r m.term = x at hbe hbs hbid hbc
  obtain ⟨kind, frm, to, mterm, prev, pterm, mcommit, ents, ok, ⟨⟩⟩ := m
  simp only [Msg.kind, Msg.frm, Msg.to, Msg.term, Msg.prev, Msg.pterm, Msg.commit, Msg.ents, Msg.ok, mg] at hm hbx e79 mt1 mt2 ⊢
  rcases Bool.eq_false_or_eq_true (decide (0 ≤ prev)) with h1 | h1 <;> simp only [h1, sumE, sS]
  rotate_left
  · simp only [Bool.false_eq_true, if_false]; rfl
  rcases Bool.eq_false_or_eq_true (decide (0 ≤ pterm)) with h2 | h2 <;> simp only [h2, sumE, sS]
  rotate_left
  · simp only [Bool.false_eq_true, if_false]; rfl
  rcases Bool.eq_false_or_eq_true (decide (0 ≤ mcommit)) with h3 | h3 <;> simp only [h3, sumE, sS]
  rotate_left
  · simp only [Bool.false_eq_true, if_false]; rfl
  simp only [if_true, m94_eq r hs, Option.bind_some]
  rw [show m123 (((r.id, r.term, r.voted, r.role, r.log, r.commit, r.votes, r.mtch, ()), mterm, ()), ()) = some ((), ((fol r mterm, ()), ())) from e79]
  simp only [Option.bind_some]
  have hp0 := of_decide_eq_true h1
  clear h1 h2 h3 ho
  refine bind_of ((), (z5, (z8, ((x, ()), ((cpR r).2.1, (((kind, frm, to, mterm, prev, pterm, mcommit, ents, ok, ()), ()), (cpR r).2.2)))))) ?_ ?_
  · rw [← hbx]
    unfold back
    generalize fol r mterm = y
    obtain ⟨id, term, voted, role, log, commit, votes, mtch, ⟨⟩⟩ := y
    simp only [Rep.id, Rep.term, Rep.voted, Rep.role, Rep.log, Rep.commit, Rep.votes, Rep.mtch, rp, beq_decide]
    by_cases c1 : role = 1
    · by_cases c2 : term = mterm
      · simp only [c1, c2, sumE, sS, ne_eq, not_true_eq_false, not_false_eq_true, eq_self, and_self, if_true]
      · simp only [c1, c2, sumE, sS, ne_eq, not_true_eq_false, not_false_eq_true, eq_self, and_false, if_false]
    · simp only [c1, sumE, sS, ne_eq, not_true_eq_false, not_false_eq_true, eq_self, false_and, if_false]
  have hll := hbc.ll
  have hso := hbc.so
  have hcc := hbc.c1
  have e92 := m125_eq x (kind, frm, to, mterm, prev, pterm, mcommit, ents, ok, ()) (by omega) hp0
  simp only [e92, Option.bind_some]
  cases hff : fits x (kind, frm, to, mterm, prev, pterm, mcommit, ents, ok, ())
  · simp only [sumE, sS, Bool.false_eq_true, if_false, ← hbid, Rep.id, Rep.term, Rep.voted, Rep.role, Rep.log, Rep.commit, Rep.votes, Rep.mtch, rp]
  have hpl : prev ≤ (x.log.length : Int) ∧ mterm = x.term := by
    simp only [fits, Bool.and_eq_true, decide_eq_true_eq, Msg.kind, Msg.frm, Msg.to, Msg.term, Msg.prev, Msg.pterm, Msg.commit, Msg.ents, Msg.ok, mg, Rep.id, Rep.term, Rep.voted, Rep.role, Rep.log, Rep.commit, Rep.votes, Rep.mtch, rp] at hff
    exact ⟨hff.1.2, hff.1.1.1⟩
  have e93 := m126_eq x (kind, frm, to, mterm, prev, pterm, mcommit, ents, ok, ()) (by omega) (show ents.length ≤ 1000000000 by omega) hp0 hpl.1
  simp only [sumE, sS, if_true, e93]
  have hje := joined_end (e := ents) (show prev.toNat ≤ x.log.length by omega)
  have hw : w64 (prev + (ents.length : Int)) = prev + (ents.length : Int) := w64_id (by omega) (by omega)
  unfold joinedE
  simp only [Msg.kind, Msg.frm, Msg.to, Msg.term, Msg.prev, Msg.pterm, Msg.commit, Msg.ents, Msg.ok, mg]
  have hjf := joined_from x.log ents prev.toNat
  rw [hjf]
  by_cases hall : from_ x.log prev.toNat ents 0 = ents.length
  · have h1 : logFits x.log mterm = true := by
      simp only [logFits, Bool.and_eq_true, decide_eq_true_eq]
      exact ⟨by rw [hpl.2]; exact hso, hll⟩
    simp only [if_pos hall, h1, decide_eq_true hcc, sumE, sS, if_true, hw, ← hbid]
    simp only [maxmin, Rep.id, Rep.term, Rep.voted, Rep.role, Rep.log, Rep.commit, Rep.votes, Rep.mtch, rp]
  · simp only [if_neg hall]
    unfold logFits
    generalize hjl : (x.log.take (prev.toNat + from_ x.log prev.toNat ents 0) ++ ents.drop (from_ x.log prev.toNat ents 0)) = jl
    generalize prev.toNat + from_ x.log prev.toNat ents 0 = jk
    cases hsr : srt mterm 1 jl
    · simp only [Bool.false_eq_true, if_false, sumE, sS]; rfl
    · simp only [if_true, sumE, sS]
      rcases Bool.eq_false_or_eq_true (decide ((jk : Int) ≥ x.commit)) with a1 | a1
      · rcases Bool.eq_false_or_eq_true (decide (jl.length ≤ 256)) with a2 | a2
        · have a1' : decide (x.commit ≤ (jk : Int)) = true := a1
          simp only [a1, a1', a2, sumE, sS, if_true, hw, ← hbid]
          simp only [maxmin, Rep.id, Rep.term, Rep.voted, Rep.role, Rep.log, Rep.commit, Rep.votes, Rep.mtch, rp]
        · simp only [a1, a2, sumE, sS, Bool.false_eq_true, if_false]; rfl
      · have a1' : decide (x.commit ≤ (jk : Int)) = false := a1
        simp only [a1, a1', sumE, sS, Bool.false_eq_true, if_false]; rfl

end Go.Proofs.YtfbikpbejkgegaaGreat

namespace Go.Proofs.YtfbikpbejkgegaaGreat
open Go Go.Abs Go.Raft
theorem have_cons (i x : Int) (l : List Int) : have_ (x :: l) i = (if x ≥ i then 1 else 0) + have_ l i := by
  unfold have_
  rw [List.countP_cons]
  by_cases h : x ≥ i <;> simp [h] <;> omega

theorem loop53a (id term voted role commit : Int) (log : Log OpT) (votes : List Bool) (mtch : List Int) (n i : Int) (hv : (mtch.length : Int) = n) (h5 : n ≤ 5) : ∀ (k j : Nat) (c : Int), j + k = mtch.length → 0 ≤ c → c ≤ j →
    loopT l77_0_14 (((j : Int), c, i, n, ()), (((id, term, voted, role, commit, ()), ()), (z5, (log, (votes, (mtch, ())))))) = some ((i, n, c + have_ (mtch.drop j) i, ()), (z5, (((id, term, voted, role, commit, ()), ()), (log, (votes, (mtch, ())))))) := by
  intro k
  induction k with
  | zero =>
    intro j c h _ _
    rw [List.drop_eq_nil_of_le (by omega)]
    refine loopT_inr ?_
    have : ¬ (j : Int) < n := by omega
    simp only [l77_0_14, this, sumE, sS]
    simp [have_]
  | succ k ih =>
    intro j c h c0 c1
    obtain ⟨e, he, hd⟩ := drop_at (l := mtch) (i := j) (by omega)
    have hlt : (j : Int) < n := by omega
    have hb : (0 : Int) ≤ j ∧ (j : Int) < (mtch.length : Int) := by omega
    rw [hd, have_cons]
    have hc : w64 (c + 1) = c + 1 := w64_id (by omega) (by omega)
    by_cases hge : e ≥ i
    · rw [show loopT l77_0_14 (((j : Int), c, i, n, ()), (((id, term, voted, role, commit, ()), ()), (z5, (log, (votes, (mtch, ())))))) = loopT l77_0_14 ((((j + 1 : Nat) : Int), c + 1, i, n, ()), (((id, term, voted, role, commit, ()), ()), (z5, (log, (votes, (mtch, ())))))) from loopT_inl (by
        simp only [l77_0_14, hb, and_self, Int.toNat_natCast, he, hlt, hge, sumE, sS, w64_nat (show j ≤ 4294967296 by omega), hc])]
      rw [ih (j + 1) (c + 1) (by omega) (by omega) (by omega), if_pos hge]
      rw [show c + 1 + have_ (mtch.drop (j + 1)) i = c + (1 + have_ (mtch.drop (j + 1)) i) by omega]
    · rw [show loopT l77_0_14 (((j : Int), c, i, n, ()), (((id, term, voted, role, commit, ()), ()), (z5, (log, (votes, (mtch, ())))))) = loopT l77_0_14 ((((j + 1 : Nat) : Int), c, i, n, ()), (((id, term, voted, role, commit, ()), ()), (z5, (log, (votes, (mtch, ())))))) from loopT_inl (by
        simp only [l77_0_14, hb, and_self, Int.toNat_natCast, he, hlt, hge, sumE, sS, w64_nat (show j ≤ 4294967296 by omega)])]
      rw [ih (j + 1) c (by omega) (by omega) (by omega), if_neg hge]
      rw [Int.zero_add]

theorem loop53b (id term voted role commit : Int) (log : Log OpT) (votes v0 : List Bool) (mtch m0 : List Int) (n : Int) (hv : (mtch.length : Int) = n) (h1 : 1 ≤ n) (h5 : n ≤ 5) (hl : log.length ≤ 4294967295) (hc : 0 ≤ commit) : ∀ (i : Nat), i ≤ log.length →
    loopT l77_0_10 (((i : Int), n, ()), (((id, term, voted, role, commit, ()), ()), (z5, (log, (votes, (mtch, ())))))) = some ((), (z5, (((id, term, voted, role, newCommit n (id, term, voted, role, log, commit, v0, m0, ()) mtch i, ()), ()), (log, (votes, (mtch, ())))))) := by
  intro i
  induction i with
  | zero =>
    intro _
    refine loopT_inr ?_
    have : ¬ ((0 : Nat) : Int) > commit := by omega
    simp only [l77_0_10, this, sumE, sS, newCommit, Rep.id, Rep.term, Rep.voted, Rep.role, Rep.log, Rep.commit, Rep.votes, Rep.mtch, rp]
  | succ i ih =>
    intro hi
    unfold newCommit
    simp only [Rep.id, Rep.term, Rep.voted, Rep.role, Rep.log, Rep.commit, Rep.votes, Rep.mtch, rp]
    by_cases hgt : ((i + 1 : Nat) : Int) > commit
    · have hin := loop53a id term voted role commit log votes mtch n ((i + 1 : Nat) : Int) hv h5 mtch.length 0 0 (by omega) (by omega) (by omega)
      rw [List.drop_zero, Int.zero_add] at hin
      have hw : w64 (((i + 1 : Nat) : Int) - 1) = (i : Int) := by rw [w64_id (by omega) (by omega)]; omega
      obtain ⟨e, he⟩ := getD_some (l := log) (i := i) (by omega)
      have hb : (0 : Int) ≤ (i : Int) ∧ (i : Int) < (log.length : Int) := by omega
      have hin' : loopT l77_0_14 ((0, (0, (((i + 1 : Nat) : Int), (n, ())))), (((id, term, voted, role, commit, ()), ()), (z5, (log, (votes, (mtch, ())))))) = _ := hin
      simp only [if_pos hgt, he, Option.map_some, Option.getD_some]
      by_cases hq : have_ mtch ((i + 1 : Nat) : Int) ≥ quorum n
      · by_cases ht : e.1 = term
        · rw [if_pos ⟨hq, ht⟩]
          refine loopT_inr ?_
          simp only [l77_0_10, decide_eq_true hgt, sumE, sS, hin', m13_eq, decide_eq_true hq, hw, hb, and_self, Int.toNat_natCast, he, beq_decide, decide_eq_true ht]
        · rw [if_neg (fun h => ht h.2)]
          rw [show loopT l77_0_10 ((((i + 1 : Nat) : Int), n, ()), (((id, term, voted, role, commit, ()), ()), (z5, (log, (votes, (mtch, ())))))) = loopT l77_0_10 (((i : Int), n, ()), (((id, term, voted, role, commit, ()), ()), (z5, (log, (votes, (mtch, ())))))) from loopT_inl (by
            simp only [l77_0_10, decide_eq_true hgt, sumE, sS, hin', m13_eq, decide_eq_true hq, hw, hb, and_self, Int.toNat_natCast, he, beq_decide, decide_eq_false ht])]
          exact ih (by omega)
      · rw [if_neg (fun h => hq h.1)]
        rw [show loopT l77_0_10 ((((i + 1 : Nat) : Int), n, ()), (((id, term, voted, role, commit, ()), ()), (z5, (log, (votes, (mtch, ())))))) = loopT l77_0_10 (((i : Int), n, ()), (((id, term, voted, role, commit, ()), ()), (z5, (log, (votes, (mtch, ())))))) from loopT_inl (by
          simp only [l77_0_10, decide_eq_true hgt, sumE, sS, hin', m13_eq, decide_eq_false hq, hw])]
        exact ih (by omega)
    · rw [if_neg hgt]
      refine loopT_inr ?_
      simp only [l77_0_10, decide_eq_false hgt, sumE, sS]

theorem maxe (e p : Int) : (if p > e then p else e) = max e p := by split <;> omega

theorem m77_eq (n : Int) (r : RT) (m : MT) (hs : Shrt r) : m77 ((n, r, m, ()), ()) = some ((), ((appended n r m, ()), ())) := by
  unfold m77 appended
  simp only [m104_eq n r m 4 hs, m89_eq r hs, Option.bind_some]
  cases ho : toOK n r m 4
  · simp only [sumE, sS]; rfl
  obtain ⟨C, _, _, f0, f1, _, _, ht⟩ := toOK_iff.1 ho
  have h1 := C.n1; have h5 := C.n5; have i0 := C.i0; have i1 := C.i1; have c0 := C.c0
  have ro := @role2_iff _ n r
  have cro := C.ro
  simp only [sumE, sS, if_true]
  obtain ⟨kind, frm, to, mterm, prev, pterm, mcommit, ents, ok, ⟨⟩⟩ := m
  simp only [Msg.kind, Msg.frm, Msg.to, Msg.term, Msg.prev, Msg.pterm, Msg.commit, Msg.ents, Msg.ok, mg] at f0 f1 ⊢
  rw [show m105 (((r.id, r.term, r.voted, r.role, r.log, r.commit, r.votes, r.mtch, ()), mterm, ()), ()) = some ((), ((fol r mterm, ()), ())) from m105_eq r mterm]
  obtain ⟨id, term, voted, role, log, commit, votes, mtch, ⟨⟩⟩ := r
  obtain ⟨s1, s2, s3⟩ := hs
  simp only [Rep.id, Rep.term, Rep.voted, Rep.role, Rep.log, Rep.commit, Rep.votes, Rep.mtch, rp] at s1 s2 s3 i0 i1 ro c0
  simp only [Rep.id, Rep.term, Rep.voted, Rep.role, Rep.log, Rep.commit, Rep.votes, Rep.mtch, rp, bne_decide]
  by_cases hgt : mterm > term
  · simp only [hgt, sumE, sS, if_true]
  simp only [hgt, sumE, sS, if_false]
  by_cases hr : role = 2
  · subst hr
    by_cases hmt : mterm = term
    · cases ok
      · simp only [hmt, ne_eq, not_true_eq_false, not_false_eq_true, eq_self, sumE, sS, Bool.false_eq_true, and_false, false_and, if_false]
      · simp only [hmt, ne_eq, not_true_eq_false, not_false_eq_true, eq_self, sumE, sS, m54_eq, true_and, if_true]
        cases hin : inn prev 0 (log.length : Int)
        · have : ¬ (0 ≤ prev ∧ prev ≤ (log.length : Int)) := fun h => by rw [inn_iff.2 h] at hin; cases hin
          simp only [this, sumE, sS, if_false]
        · have hpr := inn_iff.1 hin
          obtain ⟨v1, v2, v3, v4, v5⟩ := (ro rfl).1 cro
          have a2 : (0 : Int) ≤ frm ∧ frm < (mtch.length : Int) := by omega
          have a3 : frm.toNat < mtch.length := by omega
          obtain ⟨e, he⟩ := getD_some a3
          simp only [hpr, and_self, if_true, sumE, sS, a2, a3, he, maxe]
          have hv' : ((mtch.set frm.toNat (max e prev)).length : Int) = n := by simpa using v3
          have := loop53b id term voted 2 commit log votes votes (mtch.set frm.toNat (max e prev)) mtch n hv' h1 h5 s1 c0 log.length (Nat.le_refl _)
          rw [show loopT l77_0_10 (((log.length : Int), (n, ())), (((id, (term, (voted, (2, (commit, ()))))), ()), (((0, (0, (0, (0, (0, ()))))), ()), (log, (votes, ((mtch.set frm.toNat (max e prev)), ())))))) = _ from this]
          unfold appendedR
          simp only [Rep.id, Rep.term, Rep.voted, Rep.role, Rep.log, Rep.commit, Rep.votes, Rep.mtch, rp, Msg.kind, Msg.frm, Msg.to, Msg.term, Msg.prev, Msg.pterm, Msg.commit, Msg.ents, Msg.ok, mg, Option.bind_some, he, Option.getD_some]
    · simp only [hmt, ne_eq, not_true_eq_false, not_false_eq_true, eq_self, sumE, sS, false_and, and_false, if_false]
  · simp only [hr, ne_eq, not_true_eq_false, not_false_eq_true, eq_self, sumE, sS, false_and, if_false]

theorem loop44a (id term voted role commit : Int) (log : Log OpT) (votes : List Bool) (mtch : List Int) (n i : Int) (hl : mtch.length ≤ 4294967295) : ∀ (k j : Nat) (c : Int), j + k = mtch.length → 0 ≤ c → c ≤ j →
    loopT l118_0_14 (((j : Int), c, i, n, (mtch.length : Int), ()), (mtch, (((id, term, voted, role, commit, ()), ()), (z5, (log, (votes, ())))))) = some ((n, i, c + have_ (mtch.drop j) i, ()), (((id, term, voted, role, commit, ()), ()), (z5, (log, (votes, (mtch, ())))))) := by
  intro k
  induction k with
  | zero =>
    intro j c h _ _
    rw [List.drop_eq_nil_of_le (by omega)]
    refine loopT_inr ?_
    have : ¬ (j : Int) < (mtch.length : Int) := by omega
    simp only [l118_0_14, this, sumE, sS]
    simp [have_]
  | succ k ih =>
    intro j c h c0 c1
    obtain ⟨e, he, hd⟩ := drop_at (l := mtch) (i := j) (by omega)
    have hlt : (j : Int) < (mtch.length : Int) := by omega
    have hb : (0 : Int) ≤ j ∧ (j : Int) < (mtch.length : Int) := by omega
    rw [hd, have_cons]
    have hc : w64 (c + 1) = c + 1 := w64_id (by omega) (by omega)
    by_cases hge : e ≥ i
    · rw [show loopT l118_0_14 (((j : Int), c, i, n, (mtch.length : Int), ()), (mtch, (((id, term, voted, role, commit, ()), ()), (z5, (log, (votes, ())))))) = loopT l118_0_14 ((((j + 1 : Nat) : Int), c + 1, i, n, (mtch.length : Int), ()), (mtch, (((id, term, voted, role, commit, ()), ()), (z5, (log, (votes, ())))))) from loopT_inl (by
        simp only [l118_0_14, hb, and_self, Int.toNat_natCast, he, hlt, hge, sumE, sS, w64_nat (show j ≤ 4294967296 by omega), hc])]
      rw [ih (j + 1) (c + 1) (by omega) (by omega) (by omega), if_pos hge]
      rw [show c + 1 + have_ (mtch.drop (j + 1)) i = c + (1 + have_ (mtch.drop (j + 1)) i) by omega]
    · rw [show loopT l118_0_14 (((j : Int), c, i, n, (mtch.length : Int), ()), (mtch, (((id, term, voted, role, commit, ()), ()), (z5, (log, (votes, ())))))) = loopT l118_0_14 ((((j + 1 : Nat) : Int), c, i, n, (mtch.length : Int), ()), (mtch, (((id, term, voted, role, commit, ()), ()), (z5, (log, (votes, ())))))) from loopT_inl (by
        simp only [l118_0_14, hb, and_self, Int.toNat_natCast, he, hlt, hge, sumE, sS, w64_nat (show j ≤ 4294967296 by omega)])]
      rw [ih (j + 1) c (by omega) (by omega) (by omega), if_neg hge]
      rw [Int.zero_add]

theorem loop44b (id term voted role : Int) (log : Log OpT) (votes v0 : List Bool) (mtch m0 : List Int) (n : Int) (hv : mtch.length ≤ 4294967295) (hl : log.length ≤ 4294967295) : ∀ (i : Nat) (commit : Int), 0 ≤ commit → i ≤ log.length →
    loopT l118_0_10 (((i : Int), n, ()), (((id, term, voted, role, commit, ()), ()), (z5, (log, (votes, (mtch, ())))))) = some ((), (z5, (((id, term, voted, role, newCommit n (id, term, voted, role, log, commit, v0, m0, ()) mtch i, ()), ()), (log, (votes, (mtch, ())))))) := by
  have stop : ∀ (i : Nat) (commit : Int), ¬ (i : Int) > commit → loopT l118_0_10 (((i : Int), n, ()), (((id, term, voted, role, commit, ()), ()), (z5, (log, (votes, (mtch, ())))))) = some ((), (z5, (((id, term, voted, role, commit, ()), ()), (log, (votes, (mtch, ())))))) := by
    intro i commit hgt
    refine loopT_inr ?_
    simp only [l118_0_10, decide_eq_false hgt, sumE, sS]
  intro i
  induction i with
  | zero =>
    intro commit hc _
    rw [stop 0 commit (by omega)]
    simp only [newCommit, Rep.id, Rep.term, Rep.voted, Rep.role, Rep.log, Rep.commit, Rep.votes, Rep.mtch, rp]
  | succ i ih =>
    intro commit hc hi
    unfold newCommit
    simp only [Rep.id, Rep.term, Rep.voted, Rep.role, Rep.log, Rep.commit, Rep.votes, Rep.mtch, rp]
    by_cases hgt : ((i + 1 : Nat) : Int) > commit
    · have hin := loop44a id term voted role commit log votes mtch n ((i + 1 : Nat) : Int) hv mtch.length 0 0 (by omega) (by omega) (by omega)
      rw [List.drop_zero, Int.zero_add] at hin
      have hw : w64 (((i + 1 : Nat) : Int) - 1) = (i : Int) := by rw [w64_id (by omega) (by omega)]; omega
      obtain ⟨e, he⟩ := getD_some (l := log) (i := i) (by omega)
      have hb : (0 : Int) ≤ (i : Int) ∧ (i : Int) < (log.length : Int) := by omega
      have hin' : loopT l118_0_14 ((0, (0, (((i + 1 : Nat) : Int), (n, ((mtch.length : Int), ()))))), (mtch, (((id, term, voted, role, commit, ()), ()), (z5, (log, (votes, ())))))) = _ := hin
      simp only [if_pos hgt, he, Option.map_some, Option.getD_some]
      by_cases hq : have_ mtch ((i + 1 : Nat) : Int) ≥ quorum n
      · by_cases ht : e.1 = term
        · rw [if_pos ⟨hq, ht⟩]
          rw [show loopT l118_0_10 ((((i + 1 : Nat) : Int), n, ()), (((id, term, voted, role, commit, ()), ()), (z5, (log, (votes, (mtch, ())))))) = loopT l118_0_10 (((i : Int), n, ()), (((id, term, voted, role, ((i + 1 : Nat) : Int), ()), ()), (z5, (log, (votes, (mtch, ())))))) from loopT_inl (by
            simp only [l118_0_10, decide_eq_true hgt, sumE, sS, hin', m103_eq, decide_eq_true hq, hw, hb, and_self, Int.toNat_natCast, he, beq_decide, decide_eq_true ht])]
          exact stop i _ (by omega)
        · rw [if_neg (fun h => ht h.2)]
          rw [show loopT l118_0_10 ((((i + 1 : Nat) : Int), n, ()), (((id, term, voted, role, commit, ()), ()), (z5, (log, (votes, (mtch, ())))))) = loopT l118_0_10 (((i : Int), n, ()), (((id, term, voted, role, commit, ()), ()), (z5, (log, (votes, (mtch, ())))))) from loopT_inl (by
            simp only [l118_0_10, decide_eq_true hgt, sumE, sS, hin', m103_eq, decide_eq_true hq, hw, hb, and_self, Int.toNat_natCast, he, beq_decide, decide_eq_false ht])]
          exact ih commit hc (by omega)
      · rw [if_neg (fun h => hq h.1)]
        rw [show loopT l118_0_10 ((((i + 1 : Nat) : Int), n, ()), (((id, term, voted, role, commit, ()), ()), (z5, (log, (votes, (mtch, ())))))) = loopT l118_0_10 (((i : Int), n, ()), (((id, term, voted, role, commit, ()), ()), (z5, (log, (votes, (mtch, ())))))) from loopT_inl (by
          simp only [l118_0_10, decide_eq_true hgt, sumE, sS, hin', m103_eq, decide_eq_false hq, hw])]
        exact ih commit hc (by omega)
    · rw [if_neg hgt]
      exact stop (i + 1) commit hgt

theorem m118_eq (n : Int) (r : RT) (m : MT) (hs : Shrt r) : m118 ((n, r, m, ()), ()) = some ((), ((appended n r m, ()), ())) := by
  unfold m118 appended
  simp only [m94_eq r hs, Option.bind_some]
  rw [show m122 ((n, (r.id, r.term, r.voted, r.role, r.log, r.commit, r.votes, r.mtch, ()), m, 4, ()), ()) = some ((toOK n r m 4, ()), ()) from m122_eq n r m 4 hs]
  cases ho : toOK n r m 4
  · simp only [sumE, sS]; rfl
  obtain ⟨C, _, _, f0, f1, _, _, ht⟩ := toOK_iff.1 ho
  have h1 := C.n1; have h5 := C.n5; have i0 := C.i0; have i1 := C.i1; have c0 := C.c0; have t0 := C.t0; have t1 := C.t1
  have ro := @role2_iff _ n r
  have cro := C.ro
  simp only [sumE, sS, if_true]
  obtain ⟨kind, frm, to, mterm, prev, pterm, mcommit, ents, ok, ⟨⟩⟩ := m
  simp only [Msg.kind, Msg.frm, Msg.to, Msg.term, Msg.prev, Msg.pterm, Msg.commit, Msg.ents, Msg.ok, mg] at f0 f1 ht ⊢
  rw [show m123 (((r.id, r.term, r.voted, r.role, r.log, r.commit, r.votes, r.mtch, ()), mterm, ()), ()) = some ((), ((fol r mterm, ()), ())) from m123_eq r mterm ht (by omega) (by omega)]
  obtain ⟨id, term, voted, role, log, commit, votes, mtch, ⟨⟩⟩ := r
  obtain ⟨s1, s2, s3⟩ := hs
  simp only [Rep.id, Rep.term, Rep.voted, Rep.role, Rep.log, Rep.commit, Rep.votes, Rep.mtch, rp] at s1 s2 s3 i0 i1 ro c0
  simp only [Rep.id, Rep.term, Rep.voted, Rep.role, Rep.log, Rep.commit, Rep.votes, Rep.mtch, rp, bne_decide]
  by_cases hgt : mterm > term
  · simp only [hgt, sumE, sS, if_true]
  simp only [hgt, sumE, sS, if_false]
  by_cases hr : role = 2
  · subst hr
    by_cases hmt : mterm = term
    · cases ok
      · simp only [hmt, ne_eq, not_true_eq_false, not_false_eq_true, eq_self, sumE, sS, Bool.false_eq_true, and_false, false_and, if_false]
      · simp only [hmt, ne_eq, not_true_eq_false, not_false_eq_true, eq_self, sumE, sS, true_and, if_true]
        by_cases hp0 : prev < 0
        · have : ¬ (0 ≤ prev ∧ prev ≤ (log.length : Int)) := by omega
          simp only [hp0, this, sumE, sS, if_false]
        by_cases hp1 : prev > (log.length : Int)
        · have : ¬ (0 ≤ prev ∧ prev ≤ (log.length : Int)) := by omega
          simp only [hp0, hp1, this, sumE, sS, if_false]
        · have hpr : 0 ≤ prev ∧ prev ≤ (log.length : Int) := by omega
          obtain ⟨v1, v2, v3, v4, v5⟩ := (ro rfl).1 cro
          have a2 : (0 : Int) ≤ frm ∧ frm < (mtch.length : Int) := by omega
          have a3 : frm.toNat < mtch.length := by omega
          obtain ⟨e, he⟩ := getD_some a3
          simp only [hp0, hp1, hpr, and_self, if_true, sumE, sS, a2, a3, he, maxe]
          have := loop44b id term voted 2 log votes votes (mtch.set frm.toNat (max e prev)) mtch n (by simpa using s3) s1 log.length commit c0 (Nat.le_refl _)
          rw [show loopT l118_0_10 (((log.length : Int), (n, ())), (((id, (term, (voted, (2, (commit, ()))))), ()), (((0, (0, (0, (0, (0, ()))))), ()), (log, (votes, ((mtch.set frm.toNat (max e prev)), ())))))) = _ from this]
          unfold appendedR
          simp only [Rep.id, Rep.term, Rep.voted, Rep.role, Rep.log, Rep.commit, Rep.votes, Rep.mtch, rp, Msg.kind, Msg.frm, Msg.to, Msg.term, Msg.prev, Msg.pterm, Msg.commit, Msg.ents, Msg.ok, mg, Option.bind_some, he, Option.getD_some]
    · simp only [hmt, ne_eq, not_true_eq_false, not_false_eq_true, eq_self, sumE, sS, false_and, and_false, if_false]
  · simp only [hr, ne_eq, not_true_eq_false, not_false_eq_true, eq_self, sumE, sS, false_and, if_false]

end Go.Proofs.YtfbikpbejkgegaaGreat

namespace Go.Proofs.YtfbikpbejkgegaaGreat
open Go Go.Abs Go.Raft
abbrev CutT : Type := Int × Int × Unit

abbrev CT : Type := List RT × List MT × List Bool × List CutT × Unit

abbrev CT.reps (c : CT) : List RT := c.1

abbrev CT.wire (c : CT) : List MT := c.2.1

abbrev CT.down (c : CT) : List Bool := c.2.2.1

abbrev CT.cut (c : CT) : List CutT := c.2.2.2.1

abbrev cl (reps : List RT) (wire : List MT) (down : List Bool) (cut : List CutT) : CT := (reps, wire, down, cut, ())

abbrev zeroC : CT := cl [] [] [] []

abbrev u2 : Unit × Unit := ((), ())

/-- A cluster as the functions return it. -/
abbrev oC (c : CT) : (Unit × Unit) × List RT × List MT × List Bool × List CutT × Unit := (u2, (c.reps, (c.wire, (c.down, (c.cut, ())))))

def repsOK (n : Int) : Nat → List RT → Bool
  | _, [] => true
  | i, r :: l => decide (r.id = (i : Int)) && chk n r && repsOK n (i + 1) l

def wireOK (n : Int) (l : List MT) : Bool := l.all (fun m => inn m.frm 0 (n - 1) && inn m.to 0 (n - 1) && decide (m.frm ≠ m.to))

def isCut (l : List CutT) (a b : Int) : Bool := l.any (fun p => decide (p.1 = min a b) && decide (p.2.1 = max a b))

def cutOK1 (n : Int) (x : CutT) : Bool := decide (0 ≤ x.1) && decide (x.1 < x.2.1) && decide (x.2.1 < n)

def cutsOK (n : Int) : List CutT → List CutT → Bool
  | _, [] => true
  | pre, x :: l => cutOK1 n x && !(isCut pre x.1 x.2.1) && cutsOK n (pre ++ [x]) l

def chkC (c : CT) : Bool :=
  inn c.reps.length 1 5 && decide (c.down.length = c.reps.length) && decide (c.wire.length ≤ 256) && repsOK c.reps.length 0 c.reps && wireOK c.reps.length c.wire && cutsOK c.reps.length [] c.cut

structure ShC (c : CT) : Prop where
  r : ∀ r ∈ c.reps, Shrt r
  rl : c.reps.length ≤ 2147483647
  w : ∀ m ∈ c.wire, m.ents.length ≤ 1000000
  wl : c.wire.length ≤ 2147483647
  dl : c.down.length ≤ 2147483647
  cl : c.cut.length ≤ 2147483647

theorem min_if (a b : Int) : (if a < b then a else b) = min a b := by split <;> omega

theorem max_if (a b : Int) : (if a > b then a else b) = max a b := by split <;> omega

theorem loop113 (l : List CutT) (a b : Int) (hl : l.length ≤ 4294967295) : ∀ (k i : Nat), i + k = l.length →
    loopT l60_0_2 (((i : Int), b, a, l, ()), ()) = some (if isCut (l.drop i) b a then .inl ((true, ()), ()) else .inr ((), ())) := by
  intro k
  induction k with
  | zero =>
    intro i h
    rw [List.drop_eq_nil_of_le (by omega)]
    refine loopT_inr ?_
    have : ¬ (i : Int) < (l.length : Int) := by omega
    simp only [l60_0_2, this, sumE, sS, isCut, List.any_nil, Bool.false_eq_true, if_false]
  | succ k ih =>
    intro i h
    obtain ⟨e, he, hd⟩ := drop_at (l := l) (i := i) (by omega)
    have hlt : (i : Int) < (l.length : Int) := by omega
    rw [hd]
    unfold isCut
    rw [List.any_cons]
    cases hq : (decide (e.1 = min b a) && decide (e.2.1 = max b a))
    · rw [show loopT l60_0_2 (((i : Int), b, a, l, ()), ()) = loopT l60_0_2 ((((i + 1 : Nat) : Int), b, a, l, ()), ()) from loopT_inl (by
        simp only [l60_0_2, rowAt_G, rowG_nat he, hlt, min_if, max_if, beq_decide, hq, sumE, sS, w64_nat (show i ≤ 4294967296 by omega)])]
      rw [ih (i + 1) (by omega), Bool.false_or]
      rfl
    · rw [Bool.true_or]
      refine loopT_inr ?_
      simp only [l60_0_2, rowAt_G, rowG_nat he, hlt, min_if, max_if, beq_decide, hq, sumE, sS, if_true]

theorem isCut_comm (l : List CutT) (a b : Int) : isCut l a b = isCut l b a := by
  unfold isCut
  rw [show min a b = min b a by omega, show max a b = max b a by omega]

theorem m60_eq (l : List CutT) (a b : Int) (hl : l.length ≤ 4294967295) : m60 ((l, a, b, ()), ()) = some ((isCut l a b, ()), ()) := by
  unfold m60
  have := loop113 l a b hl l.length 0 (by omega)
  rw [List.drop_zero] at this
  simp only []
  rw [show loopT l60_0_2 ((0, (b, (a, (l, ())))), ()) = _ from this, isCut_comm l a b]
  cases isCut l b a <;> rfl

theorem loop71a (reps : List RT) (wire : List MT) (down : List Bool) (cut : List CutT) (hr : ∀ r ∈ reps, Shrt r) (hl : reps.length ≤ 2147483647) (n : Int) (hn : (reps.length : Int) = n) : ∀ (k i : Nat), i + k = reps.length →
    loopT l15_0_5 (((i : Int), n, ()), ((cl reps wire down cut, ()), ())) = some (if repsOK n i (reps.drop i) then .inr ((n, ()), ((cl reps wire down cut, ()), ())) else .inl ((false, ()), ())) := by
  intro k
  induction k with
  | zero =>
    intro i h
    rw [List.drop_eq_nil_of_le (by omega)]
    refine loopT_inr ?_
    have : ¬ (i : Int) < n := by omega
    simp only [l15_0_5, this, sumE, sS, repsOK, if_true]
  | succ k ih =>
    intro i h
    obtain ⟨e, he, hd⟩ := drop_at (l := reps) (i := i) (by omega)
    have hlt : (i : Int) < n := by omega
    have hsh := hr e (List.mem_of_getElem? he)
    rw [hd, repsOK]
    rcases Bool.eq_false_or_eq_true (decide (e.id = (i : Int))) with h1 | h1
    · cases h2 : chk n e
      · rw [h1, Bool.true_and, Bool.false_and, if_neg (by simp)]
        refine loopT_inr ?_
        simp only [l15_0_5, rowAt_G, rowG_nat he, hlt, bne_decide, decide_not, h1, m59_eq n e hsh, h2, sumE, sS]
      · rw [show loopT l15_0_5 (((i : Int), n, ()), ((cl reps wire down cut, ()), ())) = loopT l15_0_5 ((((i + 1 : Nat) : Int), n, ()), ((cl reps wire down cut, ()), ())) from loopT_inl (by
          simp only [l15_0_5, rowAt_G, rowG_nat he, hlt, bne_decide, decide_not, h1, m59_eq n e hsh, h2, sumE, sS, w64_nat (show i ≤ 4294967296 by omega)])]
        rw [ih (i + 1) (by omega), h1]
        simp only [sumE, sS]
    · rw [h1, Bool.false_and, Bool.false_and, if_neg (by simp)]
      refine loopT_inr ?_
      simp only [l15_0_5, rowAt_G, rowG_nat he, hlt, bne_decide, decide_not, h1, sumE, sS]

theorem loop71b (reps : List RT) (wire : List MT) (down : List Bool) (cut : List CutT) (hl : wire.length ≤ 2147483647) (n : Int) (hn : inn n 1 5 = true) : ∀ (k i : Nat), i + k = wire.length →
    loopT l15_0_10 (((i : Int), n, ()), ((cl reps wire down cut, ()), ())) = some (if wireOK n (wire.drop i) then .inr ((n, ()), ((cl reps wire down cut, ()), ())) else .inl ((false, ()), ())) := by
  intro k
  induction k with
  | zero =>
    intro i h
    rw [List.drop_eq_nil_of_le (by omega)]
    refine loopT_inr ?_
    have : ¬ (i : Int) < (wire.length : Int) := by omega
    simp only [l15_0_10, this, sumE, sS, wireOK, List.all_nil, if_true]
  | succ k ih =>
    intro i h
    obtain ⟨e, he, hd⟩ := drop_at (l := wire) (i := i) (by omega)
    have hlt : (i : Int) < (wire.length : Int) := by omega
    rw [hd]
    unfold wireOK
    rw [List.all_cons]
    have hw := w64_pred hn
    have hbad : (inn e.frm 0 (n - 1) && inn e.to 0 (n - 1) && decide (e.frm ≠ e.to)) = false → l15_0_10 (((i : Int), n, ()), ((cl reps wire down cut, ()), ())) = some (.inr (.inl ((false, ()), ()))) := by
      intro hb
      cases h1 : inn e.frm 0 (n - 1)
      · simp only [l15_0_10, rowAt_G, rowG_nat he, hlt, m54_eq, hw, h1, sumE, sS]
      · cases h2 : inn e.to 0 (n - 1)
        · simp only [l15_0_10, rowAt_G, rowG_nat he, hlt, m54_eq, hw, h1, h2, sumE, sS]
        · rw [h1, h2] at hb
          have h3 : e.frm = e.to := by simpa using hb
          simp only [l15_0_10, rowAt_G, rowG_nat he, hlt, m54_eq, hw, h1, h2, sumE, sS, h3]
    cases hq : (inn e.frm 0 (n - 1) && inn e.to 0 (n - 1) && decide (e.frm ≠ e.to))
    · rw [Bool.false_and, if_neg (by simp)]
      exact loopT_inr (hbad hq)
    · have hq' := hq
      simp only [Bool.and_eq_true, decide_eq_true_eq] at hq'
      obtain ⟨⟨h1, h2⟩, h3⟩ := hq'
      rw [show loopT l15_0_10 (((i : Int), n, ()), ((cl reps wire down cut, ()), ())) = loopT l15_0_10 ((((i + 1 : Nat) : Int), n, ()), ((cl reps wire down cut, ()), ())) from loopT_inl (by
        simp only [l15_0_10, rowAt_G, rowG_nat he, hlt, m54_eq, hw, h1, h2, beq_decide, decide_eq_false h3, sumE, sS, w64_nat (show i ≤ 4294967296 by omega)])]
      rw [ih (i + 1) (by omega), Bool.true_and]
      rfl

theorem loop71c (reps : List RT) (wire : List MT) (down : List Bool) (cut : List CutT) (hl : cut.length ≤ 2147483647) (n : Int) : ∀ (k i : Nat), i + k = cut.length →
    loopT l15_0_16 (((i : Int), n, ()), ((cl reps wire down cut, ()), ())) = some (if cutsOK n (cut.take i) (cut.drop i) then .inr ((), ()) else .inl ((false, ()), ())) := by
  intro k
  induction k with
  | zero =>
    intro i h
    rw [List.drop_eq_nil_of_le (by omega)]
    refine loopT_inr ?_
    have : ¬ (i : Int) < (cut.length : Int) := by omega
    simp only [l15_0_16, this, sumE, sS, cutsOK, if_true]
  | succ k ih =>
    intro i h
    obtain ⟨e, he, hd⟩ := drop_at (l := cut) (i := i) (by omega)
    have hlt : (i : Int) < (cut.length : Int) := by omega
    rw [hd, cutsOK, ← take_at he]
    have b1 : (0 : Int) ≤ (i : Int) := by omega
    have b2 : 0 ≤ i ∧ i ≤ cut.length := by omega
    have b3 : (cut.take i).length ≤ 4294967295 := by simp; omega
    unfold cutOK1
    by_cases h1 : 0 ≤ e.1
    · by_cases h2 : e.1 < e.2.1
      · by_cases h3 : e.2.1 < n
        · cases h4 : isCut (cut.take i) e.1 e.2.1
          · rw [show loopT l15_0_16 (((i : Int), n, ()), ((cl reps wire down cut, ()), ())) = loopT l15_0_16 ((((i + 1 : Nat) : Int), n, ()), ((cl reps wire down cut, ()), ())) from loopT_inl (by
              simp only [l15_0_16, rowAt_G, rowG_nat he, hlt, decide_eq_false (show ¬ e.1 < 0 by omega), decide_eq_false (show ¬ e.1 ≥ e.2.1 by omega), decide_eq_false (show ¬ e.2.1 ≥ n by omega), sumE, sS]
              simp only [b1, Int.toNat_natCast, b2, and_self, m60_eq _ _ _ b3, h4, w64_nat (show i ≤ 4294967296 by omega), sumE, sS])]
            rw [ih (i + 1) (by omega)]
            simp only [decide_eq_true h1, decide_eq_true h2, decide_eq_true h3, sumE, sS]
          · simp only [decide_eq_true h1, decide_eq_true h2, decide_eq_true h3, sumE, sS, Bool.false_eq_true, if_false]
            refine loopT_inr ?_
            simp only [l15_0_16, rowAt_G, rowG_nat he, hlt, decide_eq_false (show ¬ e.1 < 0 by omega), decide_eq_false (show ¬ e.1 ≥ e.2.1 by omega), decide_eq_false (show ¬ e.2.1 ≥ n by omega), sumE, sS]
            simp only [b1, Int.toNat_natCast, b2, and_self, m60_eq _ _ _ b3, h4, sumE, sS]
        · simp only [decide_eq_false h3, sumE, sS, Bool.false_eq_true, if_false]
          refine loopT_inr ?_
          simp only [l15_0_16, rowAt_G, rowG_nat he, hlt, decide_eq_false (show ¬ e.1 < 0 by omega), decide_eq_false (show ¬ e.1 ≥ e.2.1 by omega), decide_eq_true (show e.2.1 ≥ n by omega), sumE, sS]
      · simp only [decide_eq_false h2, sumE, sS, Bool.false_eq_true, if_false]
        refine loopT_inr ?_
        simp only [l15_0_16, rowAt_G, rowG_nat he, hlt, decide_eq_false (show ¬ e.1 < 0 by omega), decide_eq_true (show e.1 ≥ e.2.1 by omega), sumE, sS]
    · simp only [decide_eq_false h1, sumE, sS, Bool.false_eq_true, if_false]
      refine loopT_inr ?_
      simp only [l15_0_16, rowAt_G, rowG_nat he, hlt, decide_eq_true (show e.1 < 0 by omega), sumE, sS]

theorem m15_eq (c : CT) (hs : ShC c) : m15 ((c, ()), ()) = some ((chkC c, ()), ()) := by
  obtain ⟨reps, wire, down, cut, ⟨⟩⟩ := c
  unfold m15 chkC
  have l1 := loop71a reps wire down cut hs.r hs.rl reps.length rfl reps.length 0 (by omega)
  have l2 := fun h => loop71b reps wire down cut hs.wl reps.length h wire.length 0 (by omega)
  have l3 := loop71c reps wire down cut hs.cl reps.length cut.length 0 (by omega)
  rw [List.drop_zero] at l1 l3
  simp only [List.drop_zero] at l2
  rw [List.take_zero] at l3
  simp only [CT.reps, CT.wire, CT.down, CT.cut, m13_eq, Option.bind_some, inn_quorum]
  cases hn : inn (reps.length : Int) 1 5
  · simp only [sumE, sS]
  simp only [sumE, sS]
  by_cases hd : down.length = reps.length
  · have : ((down.length : Int) != (reps.length : Int)) = false := by rw [hd]; simp
    simp only [this, decide_eq_true hd, sumE, sS]
    by_cases hw : wire.length ≤ 256
    · have : ¬ (wire.length : Int) > 256 := by omega
      simp only [decide_eq_false this, decide_eq_true hw, sumE, sS]
      rw [show loopT l15_0_5 ((0, ((reps.length : Int), ())), (((reps, wire, down, cut, PUnit.unit), ()), ())) = _ from l1]
      cases repsOK reps.length 0 reps
      · simp only [Bool.false_eq_true, if_false, sumE, sS]
      simp only [if_true, sumE, sS]
      rw [show loopT l15_0_10 ((0, ((reps.length : Int), ())), ((cl reps wire down cut, ()), ())) = _ from l2 hn]
      cases wireOK reps.length wire
      · simp only [Bool.false_eq_true, if_false, sumE, sS]
      simp only [if_true, sumE, sS]
      rw [show loopT l15_0_16 ((0, ((reps.length : Int), ())), ((cl reps wire down cut, ()), ())) = _ from l3]
      cases cutsOK reps.length [] cut
      · simp only [Bool.false_eq_true, if_false, sumE, sS]
      · simp only [if_true, sumE, sS]
    · have : (wire.length : Int) > 256 := by omega
      simp only [decide_eq_true this, decide_eq_false hw, sumE, sS]
  · have : ((down.length : Int) != (reps.length : Int)) = true := by rw [bne_decide, decide_eq_true_eq]; omega
    simp only [this, decide_eq_false hd, sumE, sS]

def readyE (c : CT) (i : Int) : Int := if chkC c = true then (if inn i 0 (c.reps.length - 1) = true then 0 else 3) else 8

def wireE (c : CT) (k : Int) : Int := if chkC c = true then (if inn k 0 (c.wire.length - 1) = true then 0 else 3) else 8

theorem w64_len {n : Nat} (h : n ≤ 2147483647) : w64 ((n : Int) - 1) = (n : Int) - 1 := w64_id (by omega) (by omega)

theorem m61_eq (c : CT) (i : Int) (hs : ShC c) : m61 ((c, i, ()), ()) = some ((readyE c i, ()), ()) := by
  unfold m61 readyE
  simp only [m15_eq c hs, Option.bind_some, w64_len hs.rl, m54_eq]
  cases chkC c
  · simp only [sumE, sS, Bool.false_eq_true, if_false]
  · cases h : inn i 0 ((c.reps.length : Int) - 1)
    · simp only [sumE, sS, Bool.false_eq_true, if_false, if_true, h]
    · simp only [sumE, sS, if_true, h]

theorem m78_eq (c : CT) (k : Int) (hs : ShC c) : m78 ((c, k, ()), ()) = some ((wireE c k, ()), ()) := by
  unfold m78 wireE
  simp only [m15_eq c hs, Option.bind_some, w64_len hs.wl, m54_eq]
  cases chkC c
  · simp only [sumE, sS, Bool.false_eq_true, if_false]
  · cases h : inn k 0 ((c.wire.length : Int) - 1)
    · simp only [sumE, sS, Bool.false_eq_true, if_false, if_true, h]
    · simp only [sumE, sS, if_true, h]

theorem m51_eq (c : CT) (hs : ShC c) : m51 ((c, ()), ()) = some ((), oC c) := by
  unfold m51
  obtain ⟨reps, wire, down, cut, ⟨⟩⟩ := c
  obtain ⟨s1, s2, s3, s4, s5, s6⟩ := hs
  simp only [CT.reps, CT.wire, CT.down, CT.cut] at s1 s2 s3 s4 s5 s6
  rw [show loopT l51_0_3 ((0, ()), (((), ()), (((reps, wire, down, cut, PUnit.unit), ()), (((), ()), ([], ()))))) = some ((), (u2, ((cl reps wire down cut, ()), (u2, (reps, ()))))) from loop_up (fun i => (((i : Int), ()), (u2, ((cl reps wire down cut, ()), (u2, (reps.take i, ())))))) ((), (u2, ((cl reps wire down cut, ()), (u2, (reps, ()))))) reps.length (fun i hi => by
      obtain ⟨e, he⟩ := getD_some hi
      have hlt : (i : Int) < (reps.length : Int) := by omega
      have h3 : ∀ x : RT, (reps.take i).length + [x].length ≤ 4294967296 := by intro x; simp; omega
      rw [take_at he]
      simp only [l51_0_3, rowAt_G, rowG_nat he, hlt, m89_eq e (s1 e (List.mem_of_getElem? he)), h3, sumE, sS, w64_nat (show i ≤ 4294967296 by omega), cpR]) (by
      have : ¬ (reps.length : Int) < (reps.length : Int) := by omega
      simp only [l51_0_3, this, sumE, sS, List.take_length]) reps.length 0 (by omega)]
  simp only [Option.bind_some]
  rw [show loopT l51_0_7 ((0, ()), (((), ()), ((cl reps wire down cut, ()), (((), ()), (reps, ([], ())))))) = some ((), (u2, (u2, ((cl reps wire down cut, ()), (reps, (wire, ())))))) from loop_up (fun i => (((i : Int), ()), (u2, ((cl reps wire down cut, ()), (u2, (reps, (wire.take i, ()))))))) ((), (u2, (u2, ((cl reps wire down cut, ()), (reps, (wire, ())))))) wire.length (fun i hi => by
      obtain ⟨e, he⟩ := getD_some hi
      have hlt : (i : Int) < (wire.length : Int) := by omega
      have h3 : ∀ x : MT, (wire.take i).length + [x].length ≤ 4294967296 := by intro x; simp; omega
      have h4 : 0 + e.2.2.2.2.2.2.2.1.length ≤ 4294967296 := by have := s3 e (List.mem_of_getElem? he); simp only [Msg.kind, Msg.frm, Msg.to, Msg.term, Msg.prev, Msg.pterm, Msg.commit, Msg.ents, Msg.ok, mg] at this; omega
      rw [take_at he]
      simp only [l51_0_7, rowAt_G, rowG_nat he, hlt, h3, h4, sumE, sS, w64_nat (show i ≤ 4294967296 by omega)]) (by
      have : ¬ (wire.length : Int) < (wire.length : Int) := by omega
      simp only [l51_0_7, this, sumE, sS, List.take_length]) wire.length 0 (by omega)]
  have b1 : 0 + down.length ≤ 4294967296 := by omega
  have b2 : 0 + cut.length ≤ 4294967296 := by omega
  simp only [Option.bind_some, b1, b2, sumE, sS, oC, CT.reps, CT.wire, CT.down, CT.cut]

end Go.Proofs.YtfbikpbejkgegaaGreat

namespace Go.Proofs.YtfbikpbejkgegaaGreat
open Go Go.Abs Go.Raft
abbrev repAt (c : CT) (i : Int) : RT := c.reps[i.toNat]?.getD zeroR

abbrev downAt (c : CT) (i : Int) : Bool := c.down[i.toNat]?.getD false

abbrev wireAt (c : CT) (k : Int) : MT := c.wire[k.toNat]?.getD zeroM

def newC (n : Int) : CT := cl ((List.range n.toNat).map rep0) [] (List.replicate n.toNat false) []

def newE (n : Int) : Int × CT := if quorum n = 0 then (1, zeroC) else (0, newC n)

def standC (c : CT) (i : Int) : Int × CT :=
  if readyE c i = 0 then
    if downAt c i = true then (21, zeroC) else
    let s := stand (c.reps.length : Int) (repAt c i)
    if s.1 = 0 then (if c.wire.length + s.2.2.length > 256 then (5, zeroC) else (0, cl (c.reps.set i.toNat s.2.1) (c.wire ++ s.2.2) c.down c.cut)) else (s.1, zeroC)
  else (readyE c i, zeroC)

def proposeC (c : CT) (i : Int) (o : OpT) : Int × CT :=
  if readyE c i = 0 then
    if downAt c i = true then (21, zeroC) else
    let s := proposeE (c.reps.length : Int) (repAt c i) o
    if s.1 = 0 then (0, cl (c.reps.set i.toNat s.2) c.wire c.down c.cut) else (s.1, zeroC)
  else (readyE c i, zeroC)

def beatC (c : CT) (i : Int) : Int × CT :=
  if readyE c i = 0 then
    if downAt c i = true then (21, zeroC) else
    if (repAt c i).role = 2 then
      let l := appendsE (c.reps.length : Int) (repAt c i)
      if c.wire.length + l.length > 256 then (5, zeroC) else (0, cl c.reps (c.wire ++ l) c.down c.cut)
    else (22, zeroC)
  else (readyE c i, zeroC)

def cutOut (l : List MT) (k : Nat) : List MT := l.take k ++ l.drop (k + 1)

def dropC (c : CT) (k : Int) : Int × CT := if wireE c k = 0 then (0, cl c.reps (cutOut c.wire k.toNat) c.down c.cut) else (wireE c k, zeroC)

def doubleC (c : CT) (k : Int) : Int × CT :=
  if wireE c k = 0 then (if c.wire.length ≥ 256 then (5, zeroC) else (0, cl c.reps (c.wire ++ [wireAt c k]) c.down c.cut)) else (wireE c k, zeroC)

def hearAny (n : Int) (r : RT) (m : MT) : RT × MT × Bool :=
  if m.kind = 1 then hear n r m else if m.kind = 2 then (voted n r m, zeroM, false) else if m.kind = 3 then accept n r m else if m.kind = 4 then (appended n r m, zeroM, false) else (r, zeroM, false)

def deliverC (c : CT) (k : Int) : Int × CT :=
  if wireE c k = 0 then
    let m := wireAt c k
    let w := cutOut c.wire k.toNat
    if downAt c m.to = true ∨ isCut c.cut m.frm m.to = true then (0, cl c.reps w c.down c.cut)
    else
      let h := hearAny (c.reps.length : Int) (repAt c m.to) m
      (0, cl (c.reps.set m.to.toNat h.1) (w ++ if h.2.2 then [h.2.1] else []) c.down c.cut)
  else (wireE c k, zeroC)

def crashC (c : CT) (i : Int) : Int × CT :=
  if readyE c i = 0 then (if downAt c i = true then (9, zeroC) else (0, cl c.reps c.wire (c.down.set i.toNat true) c.cut)) else (readyE c i, zeroC)

def restartC (c : CT) (i : Int) : Int × CT :=
  if readyE c i = 0 then (if downAt c i = true then (0, cl (c.reps.set i.toNat (restartE (c.reps.length : Int) (repAt c i)).2) c.wire (c.down.set i.toNat false) c.cut) else (9, zeroC)) else (readyE c i, zeroC)

def cutC (c : CT) (i j : Int) : Int × CT :=
  if readyE c i = 0 then
    if inn j 0 ((c.reps.length : Int) - 1) = true then
      if i = j then (1, zeroC) else if isCut c.cut i j = true then (9, zeroC) else (0, cl c.reps c.wire c.down (c.cut ++ [(min i j, max i j, ())]))
    else (3, zeroC)
  else (readyE c i, zeroC)

def healC (c : CT) : CT := if chkC c = true then cl c.reps c.wire c.down [] else zeroC

/-! ### What a valid cluster is -/
theorem repsOK_get {n : Int} : ∀ {l : List RT} {i j : Nat} {r : RT}, repsOK n i l = true → l[j]? = some r → r.id = ((i + j : Nat) : Int) ∧ chk n r = true := by
  intro l
  induction l with
  | nil => intro i j r _ h; simp at h
  | cons x l ih =>
    intro i j r h hj
    simp only [repsOK, Bool.and_eq_true, decide_eq_true_eq] at h
    cases j with
    | zero => simp at hj; subst hj; exact ⟨by rw [h.1.1]; simp, h.1.2⟩
    | succ j =>
      have := ih (i := i + 1) (j := j) h.2 (by simpa using hj)
      exact ⟨by rw [this.1]; omega, this.2⟩

theorem repsOK_of {n : Int} : ∀ {l : List RT} {i : Nat}, (∀ j r, l[j]? = some r → r.id = ((i + j : Nat) : Int) ∧ chk n r = true) → repsOK n i l = true := by
  intro l
  induction l with
  | nil => intro i _; rfl
  | cons x l ih =>
    intro i h
    have h0 := h 0 x rfl
    simp only [repsOK, Bool.and_eq_true, decide_eq_true_eq]
    refine ⟨⟨by rw [h0.1]; simp, h0.2⟩, ih fun j r hj => ?_⟩
    have := h (j + 1) r (by simpa using hj)
    exact ⟨by rw [this.1]; omega, this.2⟩

structure VC (c : CT) : Prop where
  n1 : 1 ≤ c.reps.length
  n5 : c.reps.length ≤ 5
  dn : c.down.length = c.reps.length
  wl : c.wire.length ≤ 256
  rp : ∀ (j : Nat) (r : RT), c.reps[j]? = some r → r.id = (j : Int) ∧ Chk (c.reps.length : Int) r
  wm : ∀ m ∈ c.wire, 0 ≤ m.frm ∧ m.frm < (c.reps.length : Int) ∧ 0 ≤ m.to ∧ m.to < (c.reps.length : Int) ∧ m.frm ≠ m.to
  cs : cutsOK (c.reps.length : Int) [] c.cut = true

theorem chkC_iff {c : CT} : chkC c = true ↔ VC c := by
  unfold chkC
  simp only [Bool.and_eq_true, decide_eq_true_eq, inn]
  constructor
  · rintro ⟨⟨⟨⟨⟨h1, h2⟩, h3⟩, h4⟩, h5⟩, h6⟩
    refine ⟨by omega, by omega, h2, h3, fun j r hj => ?_, fun m hm => ?_, h6⟩
    · have := repsOK_get h4 hj
      exact ⟨by rw [this.1]; simp, chk_iff.1 this.2⟩
    · have := List.all_eq_true.1 h5 m hm
      simp only [Bool.and_eq_true, decide_eq_true_eq, inn] at this
      exact ⟨by omega, by omega, by omega, by omega, this.2⟩
  · rintro ⟨h1, h2, h3, h4, h5, h6, h7⟩
    refine ⟨⟨⟨⟨⟨by omega, h3⟩, h4⟩, repsOK_of fun j r hj => ?_⟩, ?_⟩, h7⟩
    · have := h5 j r hj
      exact ⟨by rw [this.1]; simp, chk_iff.2 this.2⟩
    · refine List.all_eq_true.2 fun m hm => ?_
      have := h6 m hm
      simp only [Bool.and_eq_true, decide_eq_true_eq, inn]
      exact ⟨⟨by omega, by omega⟩, this.2.2.2.2⟩

theorem ready_iff {c : CT} {i : Int} : readyE c i = 0 ↔ VC c ∧ 0 ≤ i ∧ i < (c.reps.length : Int) := by
  unfold readyE
  constructor
  · intro h
    split at h
    · rename_i hc
      split at h
      · rename_i hi
        rw [inn_iff] at hi
        exact ⟨chkC_iff.1 hc, by omega, by omega⟩
      · cases h
    · cases h
  · rintro ⟨h1, h2, h3⟩
    rw [if_pos (chkC_iff.2 h1), if_pos (inn_iff.2 ⟨h2, by omega⟩)]

theorem wire_iff {c : CT} {k : Int} : wireE c k = 0 ↔ VC c ∧ 0 ≤ k ∧ k < (c.wire.length : Int) := by
  unfold wireE
  constructor
  · intro h
    split at h
    · rename_i hc
      split at h
      · rename_i hi
        rw [inn_iff] at hi
        exact ⟨chkC_iff.1 hc, by omega, by omega⟩
      · cases h
    · cases h
  · rintro ⟨h1, h2, h3⟩
    rw [if_pos (chkC_iff.2 h1), if_pos (inn_iff.2 ⟨h2, by omega⟩)]

theorem shrt_of {n : Int} {r : RT} (h : Chk n r) : Shrt r := by
  have hl := h.ll; have n5 := h.n5
  rcases role_cases h.ro with h0 | h0 | h0
  · obtain ⟨a, b⟩ := (role0_iff h0).1 h.ro
    exact ⟨by omega, by rw [a]; simp, by rw [b]; simp⟩
  · obtain ⟨a, _, b⟩ := (role1_iff h0).1 h.ro
    exact ⟨by omega, by omega, by rw [b]; simp⟩
  · obtain ⟨a, _, b, _⟩ := (role2_iff h0).1 h.ro
    exact ⟨by omega, by omega, by omega⟩

theorem stand_len (n : Int) (r : RT) : (stand n r).2.2.length ≤ 5 := by
  unfold stand
  split
  · rename_i hc
    have := (chk_iff.1 hc).n5
    split
    · simp
    · simp only [asks, List.length_map]
      refine Nat.le_trans (List.length_filter_le _ _) ?_
      simp; omega
  · simp

theorem appends_len (n : Int) (r : RT) : (appendsE n r).length ≤ 5 := by
  unfold appendsE
  split
  · rename_i hc
    have := (chk_iff.1 hc.1).n5
    simp only [appends, List.length_map]
    refine Nat.le_trans (List.length_filter_le _ _) ?_
    simp; omega
  · simp

theorem m88_eq (i n : Int) (h1 : 1 ≤ n) (h5 : n ≤ 5) (i0 : 0 ≤ i) (i1 : i < n) : m88 ((i, n, ()), ()) = some ((0, ()), (((i, 0, -1, 0, 0, ()), ()), ())) := by
  unfold m88
  simp only [m13_eq, Option.bind_some, inn_quorum, inn_iff.2 ⟨h1, h5⟩, w64_pred (inn_iff.2 ⟨h1, h5⟩), m54_eq, inn_iff.2 (show 0 ≤ i ∧ i ≤ n - 1 by omega), sumE, sS]

theorem m50_eq (n : Int) : m50 ((n, ()), ()) = some (((newE n).1, ()), (u2, ((newE n).2.reps, ((newE n).2.down, ())))) ∧ (newE n).2.wire = [] ∧ (newE n).2.cut = [] := by
  unfold m50 newE
  simp only [m13_eq, Option.bind_some, beq_decide]
  by_cases hq : quorum n = 0
  · simp only [hq, decide_true, cond_true, if_true, CT.reps, CT.wire, CT.down, CT.cut, cl, and_self]
  · have hn : 1 ≤ n ∧ n ≤ 5 := by
      unfold quorum at hq
      split at hq
      · assumption
      · exact absurd rfl hq
    have b1 : (0 : Int) ≤ n ∧ n ≤ n ∧ n ≤ 4294967296 := by omega
    simp only [decide_eq_false hq, b1, and_self, sumE, sS, if_neg hq]
    refine ⟨?_, rfl, rfl⟩
    have hN : (n.toNat : Int) = n := by omega
    rw [show loopT l50_0_5 ((0, (n, ())), (((), ()), (((), ()), ([], ((List.replicate n.toNat false), ()))))) = some ((), (u2, (u2, ((List.range n.toNat).map rep0, ((List.replicate n.toNat false), ()))))) from loop_up (fun i => (((i : Int), n, ()), (u2, (u2, ((List.range i).map rep0, ((List.replicate n.toNat false), ())))))) _ n.toNat (fun i hi => by
      have hlt : (i : Int) < n := by omega
      have h3 : ∀ x : RT, ((List.range i).map (rep0 : Nat → RT)).length + [x].length ≤ 4294967296 := by intro x; simp; omega
      rw [List.range_succ, List.map_append]
      simp only [l50_0_5, hlt, m88_eq (i : Int) n hn.1 hn.2 (by omega) hlt, h3, sumE, sS, w64_nat (show i ≤ 4294967296 by omega), List.map_cons, List.map_nil, rep0, rp]) (by
      have : ¬ (n.toNat : Int) < n := by omega
      simp only [l50_0_5, this, sumE, sS]) n.toNat 0 (by omega)]
    simp only [Option.bind_some, newC, CT.reps, CT.down]

theorem rep_at {c : CT} {i : Int} (h0 : 0 ≤ i) (h1 : i < (c.reps.length : Int)) : ∃ r, c.reps[i.toNat]? = some r ∧ repAt c i = r := by
  obtain ⟨r, h⟩ := getD_some (l := c.reps) (i := i.toNat) (by omega)
  exact ⟨r, h, by unfold repAt; rw [h]; rfl⟩

theorem down_at {c : CT} {i : Int} (h0 : 0 ≤ i) (h1 : i < (c.down.length : Int)) : ∃ r, c.down[i.toNat]? = some r ∧ downAt c i = r := by
  obtain ⟨r, h⟩ := getD_some (l := c.down) (i := i.toNat) (by omega)
  exact ⟨r, h, by unfold downAt; rw [h]; rfl⟩

theorem wire_at {c : CT} {i : Int} (h0 : 0 ≤ i) (h1 : i < (c.wire.length : Int)) : ∃ r, c.wire[i.toNat]? = some r ∧ wireAt c i = r := by
  obtain ⟨r, h⟩ := getD_some (l := c.wire) (i := i.toNat) (by omega)
  exact ⟨r, h, by unfold wireAt; rw [h]; rfl⟩

theorem m29_eq (c : CT) (i : Int) (hs : ShC c) : m29 ((c, i, ()), ()) = some (((standC c i).1, ()), oC (standC c i).2) := by
  unfold m29 standC
  simp only [m61_eq c i hs, Option.bind_some, bne_decide, decide_not]
  by_cases hr : readyE c i = 0
  · obtain ⟨V, i0, i1⟩ := ready_iff.1 hr
    have hdl := V.dn
    obtain ⟨r, e1, e1'⟩ := rep_at i0 i1
    obtain ⟨d, e2, e2'⟩ := down_at (c := c) i0 (by omega)
    rw [e1', e2']
    simp only [hr, decide_true, sumE, sS, if_true, rowAt_G, rowG_int i0 e2]
    cases d
    · simp only [sumE, sS, m51_eq c hs, Option.bind_some, Bool.false_eq_true, if_false]
      have b1 : (0 : Int) ≤ i ∧ i < (c.1.length : Int) := ⟨i0, i1⟩
      have b3 : i.toNat < c.1.length := by have := b1.2; omega
      have hrs := shrt_of (V.rp _ _ e1).2
      simp only [b1, and_self, e1, sumE, sS, m70_eq (c.reps.length : Int) r hrs]
      have hsl := stand_len (c.reps.length : Int) r
      have hwl := hs.wl
      by_cases h0 : (stand (c.reps.length : Int) r).1 = 0
      · have hw : w64 ((c.wire.length : Int) + ((stand (c.reps.length : Int) r).2.2.length : Int)) = (c.wire.length : Int) + ((stand (c.reps.length : Int) r).2.2.length : Int) := w64_id (by omega) (by omega)
        simp only [h0, decide_true, sumE, sS, if_true, hw]
        have b2 : c.wire.length + (stand (c.reps.length : Int) r).2.2.length ≤ 4294967296 := by omega
        by_cases hg : c.wire.length + (stand (c.reps.length : Int) r).2.2.length > 256
        · have : (c.wire.length : Int) + ((stand (c.reps.length : Int) r).2.2.length : Int) > 256 := by omega
          simp only [this, hg, decide_true, sumE, sS, if_true]
        · have : ¬ (c.wire.length : Int) + ((stand (c.reps.length : Int) r).2.2.length : Int) > 256 := by omega
          simp only [this, hg, b1, b2, b3, and_self, decide_false, decide_true, sumE, sS, if_false]
      · simp only [h0, decide_false, sumE, sS, if_false]
    · simp only [sumE, sS, if_true]
  · simp only [hr, decide_false, sumE, sS, if_false]

theorem m31_eq (c : CT) (i : Int) (o : OpT) (hs : ShC c) : m31 ((c, i, o, ()), ()) = some (((proposeC c i o).1, ()), oC (proposeC c i o).2) := by
  unfold m31 proposeC
  simp only []
  rw [show m61 (((c.1, c.2.1, c.2.2.1, c.2.2.2.1, ()), i, ()), ()) = some ((readyE c i, ()), ()) from m61_eq c i hs]
  simp only [Option.bind_some, bne_decide, decide_not]
  by_cases hr : readyE c i = 0
  · obtain ⟨V, i0, i1⟩ := ready_iff.1 hr
    have hdl := V.dn
    obtain ⟨r, e1, e1'⟩ := rep_at i0 i1
    obtain ⟨d, e2, e2'⟩ := down_at (c := c) i0 (by omega)
    rw [e1', e2']
    simp only [hr, decide_true, sumE, sS, if_true, rowAt_G, rowG_int i0 e2]
    cases d
    · have b1 : (0 : Int) ≤ i ∧ i < (c.1.length : Int) := ⟨i0, i1⟩
      have b3 : i.toNat < c.1.length := by have := b1.2; omega
      have hrs := shrt_of (V.rp _ _ e1).2
      simp only [sumE, sS, m51_eq c hs, Option.bind_some, Bool.false_eq_true, if_false]
      simp only [b1, and_self, e1, sumE, sS, m72_eq (c.reps.length : Int) r o hrs]
      by_cases h0 : (proposeE (c.reps.length : Int) r o).1 = 0
      · simp only [h0, b1, b3, and_self, decide_true, sumE, sS, if_true]
      · simp only [h0, decide_false, sumE, sS, if_false]
    · simp only [sumE, sS, if_true]
  · simp only [hr, decide_false, sumE, sS, if_false]

theorem m33_eq (c : CT) (i : Int) (hs : ShC c) : m33 ((c, i, ()), ()) = some (((beatC c i).1, ()), oC (beatC c i).2) := by
  unfold m33 beatC
  simp only [m61_eq c i hs, Option.bind_some, bne_decide, decide_not]
  by_cases hr : readyE c i = 0
  · obtain ⟨V, i0, i1⟩ := ready_iff.1 hr
    have hdl := V.dn
    obtain ⟨r, e1, e1'⟩ := rep_at i0 i1
    obtain ⟨d, e2, e2'⟩ := down_at (c := c) i0 (by omega)
    rw [e1', e2']
    simp only [hr, decide_true, sumE, sS, if_true, rowAt_G, rowG_int i0 e2, rowG_int i0 e1]
    cases d
    · have b1 : (0 : Int) ≤ i ∧ i < (c.1.length : Int) := ⟨i0, i1⟩
      have hrs := shrt_of (V.rp _ _ e1).2
      simp only [sumE, sS, m51_eq c hs, Option.bind_some, Bool.false_eq_true, if_false]
      by_cases h2 : r.role = 2
      · have hsl := appends_len (c.reps.length : Int) r
        have hwl := hs.wl
        have hw : w64 ((c.wire.length : Int) + ((appendsE (c.reps.length : Int) r).length : Int)) = (c.wire.length : Int) + ((appendsE (c.reps.length : Int) r).length : Int) := w64_id (by omega) (by omega)
        have b2 : c.wire.length + (appendsE (c.reps.length : Int) r).length ≤ 4294967296 := by omega
        simp only [h2, b1, and_self, e1, decide_true, sumE, sS, if_true, m73_eq (c.reps.length : Int) r hrs, hw]
        by_cases hg : c.wire.length + (appendsE (c.reps.length : Int) r).length > 256
        · have : (c.wire.length : Int) + ((appendsE (c.reps.length : Int) r).length : Int) > 256 := by omega
          simp only [this, hg, decide_true, sumE, sS, if_true]
        · have : ¬ (c.wire.length : Int) + ((appendsE (c.reps.length : Int) r).length : Int) > 256 := by omega
          simp only [this, hg, b2, decide_false, decide_true, sumE, sS, if_false]
      · simp only [h2, decide_false, sumE, sS, if_false]
    · simp only [sumE, sS, if_true]
  · simp only [hr, decide_false, sumE, sS, if_false]

theorem m18_eq (c : CT) (i : Int) (hs : ShC c) : m18 ((c, i, ()), ()) = some (((crashC c i).1, ()), oC (crashC c i).2) := by
  unfold m18 crashC
  simp only [m61_eq c i hs, Option.bind_some, bne_decide, decide_not]
  by_cases hr : readyE c i = 0
  · obtain ⟨V, i0, i1⟩ := ready_iff.1 hr
    have hdl := V.dn
    obtain ⟨d, e2, e2'⟩ := down_at (c := c) i0 (by omega)
    rw [e2']
    simp only [hr, decide_true, sumE, sS, if_true, rowAt_G, rowG_int i0 e2]
    cases d
    · have b1 : (0 : Int) ≤ i ∧ i < (c.2.2.1.length : Int) := by show (0 : Int) ≤ i ∧ i < (c.down.length : Int); omega
      have b3 : i.toNat < c.2.2.1.length := by have := b1.2; omega
      simp only [sumE, sS, m51_eq c hs, Option.bind_some, Bool.false_eq_true, if_false, b1, b3, and_self]
    · simp only [sumE, sS, if_true]
  · simp only [hr, decide_false, sumE, sS, if_false]

theorem m39_eq (c : CT) (i : Int) (hs : ShC c) : m39 ((c, i, ()), ()) = some (((restartC c i).1, ()), oC (restartC c i).2) := by
  unfold m39 restartC
  simp only [m61_eq c i hs, Option.bind_some, bne_decide, decide_not]
  by_cases hr : readyE c i = 0
  · obtain ⟨V, i0, i1⟩ := ready_iff.1 hr
    have hdl := V.dn
    obtain ⟨r, e1, e1'⟩ := rep_at i0 i1
    obtain ⟨d, e2, e2'⟩ := down_at (c := c) i0 (by omega)
    rw [e1', e2']
    simp only [hr, decide_true, sumE, sS, if_true, rowAt_G, rowG_int i0 e2]
    cases d
    · simp only [sumE, sS, Bool.false_eq_true, if_false]
    · have b1 : (0 : Int) ≤ i ∧ i < (c.2.2.1.length : Int) := by show (0 : Int) ≤ i ∧ i < (c.down.length : Int); omega
      have b3 : i.toNat < c.2.2.1.length := by have := b1.2; omega
      have b4 : (0 : Int) ≤ i ∧ i < (c.1.length : Int) := ⟨i0, i1⟩
      have b5 : i.toNat < c.1.length := by have := b4.2; omega
      have hrc := V.rp _ _ e1
      have hrs := shrt_of hrc.2
      simp only [sumE, sS, m51_eq c hs, Option.bind_some, if_true, b1, b3, b4, b5, and_self, e1, m80_eq (c.reps.length : Int) r hrs]
      unfold restartE
      rw [if_pos (chk_iff.2 hrc.2)]
      rfl
  · simp only [hr, decide_false, sumE, sS, if_false]

theorem m9_eq (c : CT) (hs : ShC c) : m9 ((c, ()), ()) = some ((), (u2, ((healC c).reps, ((healC c).wire, ((healC c).down, ()))))) ∧ (healC c).cut = [] := by
  unfold m9 healC
  simp only [m15_eq c hs, m51_eq c hs, Option.bind_some]
  cases chkC c
  · simp only [sumE, sS, Bool.false_eq_true, if_false, and_self]
  · simp only [sumE, sS, if_true, and_self]

theorem m19_eq (c : CT) (i j : Int) (hs : ShC c) : m19 ((c, i, j, ()), ()) = some (((cutC c i j).1, ()), oC (cutC c i j).2) := by
  unfold m19 cutC
  simp only []
  rw [show m61 (((c.1, c.2.1, c.2.2.1, c.2.2.2.1, ()), i, ()), ()) = some ((readyE c i, ()), ()) from m61_eq c i hs]
  rw [show m51 (((c.1, c.2.1, c.2.2.1, c.2.2.2.1, ()), ()), ()) = some ((), oC c) from m51_eq c hs]
  simp only [Option.bind_some, bne_decide, beq_decide, decide_not, w64_len hs.rl, m54_eq, m60_eq c.cut i j (by have := hs.cl; omega)]
  by_cases hr : readyE c i = 0
  · simp only [hr, decide_true, sumE, sS, if_true]
    cases hj : inn j 0 ((c.reps.length : Int) - 1)
    · simp only [sumE, sS, Bool.false_eq_true, if_false]
    · simp only [sumE, sS, if_true]
      by_cases hij : i = j
      · simp only [hij, decide_true, sumE, sS, if_true]
      · simp only [hij, decide_false, sumE, sS, if_false]
        have hcl := hs.cl
        have b : ∀ x : CutT, c.cut.length + [x].length ≤ 4294967296 := by intro x; simp; omega
        cases isCut c.cut i j
        · simp only [sumE, sS, Bool.false_eq_true, if_false, min_if, max_if, b]
          rw [show min j i = min i j by omega, show max j i = max i j by omega]
        · simp only [sumE, sS, if_true]
  · simp only [hr, decide_false, sumE, sS, if_false]

/-- What is left of a wire, as the functions return a cluster then. -/
abbrev oW (c : CT) : ((List MT × Unit) × Unit) × List RT × List Bool × List CutT × Unit := (((c.wire, ()), ()), (c.reps, (c.down, (c.cut, ()))))

theorem m35_eq (c : CT) (k : Int) (hs : ShC c) : m35 ((c, k, ()), ()) = some (((dropC c k).1, ()), oW (dropC c k).2) := by
  unfold m35 dropC
  simp only [m78_eq c k hs, Option.bind_some, bne_decide, decide_not]
  by_cases hr : wireE c k = 0
  · obtain ⟨V, k0, k1⟩ := wire_iff.1 hr
    have hwl := V.wl
    have w : w64 (k + 1) = k + 1 := w64_id (by omega) (by omega)
    have b1 : (0 : Int) ≤ k + 1 := by omega
    have b2 : 0 ≤ k.toNat ∧ k.toNat = k.toNat ∧ k.toNat ≤ c.wire.length := by omega
    have b3 : (k + 1).toNat ≤ c.wire.length ∧ c.wire.length ≤ c.wire.length := by omega
    have b4 : (k + 1).toNat + (c.wire.length - (k + 1).toNat) ≤ c.wire.length := by omega
    have b5 : (c.wire.drop (k + 1).toNat).take (c.wire.length - (k + 1).toNat) = c.wire.drop (k + 1).toNat := List.take_of_length_le (by simp)
    have b6 : (k + 1).toNat = k.toNat + 1 := by omega
    have b7 : (c.wire.take k.toNat).length + (c.wire.drop (k + 1).toNat).length ≤ 4294967296 := by simp; omega
    simp only [hr, decide_true, sumE, sS, if_true, m51_eq c hs, w, k0, b1, b2, b3, b4, b5, b7, and_self]
    refine bind_of ((), (u2, (((cutOut c.wire k.toNat, ()), ()), (c.reps, (c.down, (c.cut, ())))))) ?_ rfl
    unfold cutOut
    rw [b6]
    generalize c.wire.take k.toNat = u
    generalize c.wire.drop (k.toNat + 1) = v
    cases u with
    | nil => rfl
    | cons a u => cases v with
      | nil => simp only [List.isEmpty_cons, List.isEmpty_nil, List.append_nil, sumE, sS]
      | cons b v => rfl
  · simp only [hr, decide_false, sumE, sS, if_false]

theorem m36_eq (c : CT) (k : Int) (hs : ShC c) : m36 ((c, k, ()), ()) = some (((doubleC c k).1, ()), oC (doubleC c k).2) := by
  unfold m36 doubleC
  simp only [m78_eq c k hs, Option.bind_some, bne_decide, decide_not]
  by_cases hr : wireE c k = 0
  · obtain ⟨V, k0, k1⟩ := wire_iff.1 hr
    have hwl := V.wl
    obtain ⟨m, e1, e1'⟩ := wire_at k0 k1
    rw [e1']
    have b1 : (0 : Int) ≤ k ∧ k < (c.2.1.length : Int) := ⟨k0, k1⟩
    have b2 : ∀ x : MT, c.wire.length + [x].length ≤ 4294967296 := by intro x; simp; omega
    simp only [hr, decide_true, sumE, sS, if_true]
    by_cases hg : c.wire.length ≥ 256
    · have : (c.wire.length : Int) ≥ 256 := by omega
      simp only [this, hg, decide_true, sumE, sS, if_true]
    · have : ¬ (c.wire.length : Int) ≥ 256 := by omega
      simp only [this, hg, decide_false, sumE, sS, if_false, m51_eq c hs, b1, b2, and_self, e1]
  · simp only [hr, decide_false, sumE, sS, if_false]

theorem re_nil (x : MT) (h : x.ents = []) : (x.kind, x.frm, x.to, x.term, x.prev, x.pterm, x.commit, ([] : Log OpT), x.ok, ()) = x := by
  obtain ⟨kind, frm, to, mterm, prev, pterm, mcommit, ents, ok, ⟨⟩⟩ := x
  simp only [Msg.kind, Msg.frm, Msg.to, Msg.term, Msg.prev, Msg.pterm, Msg.commit, Msg.ents, Msg.ok, mg] at h ⊢
  rw [h]

theorem hear_ents (n : Int) (r : RT) (m : MT) : (hear n r m).2.1.ents = [] := by
  unfold hear; split <;> rfl

theorem accept_ents (n : Int) (r : RT) (m : MT) : (accept n r m).2.1.ents = [] := by
  unfold accept; split
  · simp only; split
    · split <;> rfl
    · rfl
  · rfl

theorem m34_eq (c : CT) (k : Int) (hs : ShC c) : m34 ((c, k, ()), ()) = some (((deliverC c k).1, ()), oW (deliverC c k).2) := by
  unfold m34 deliverC
  simp only [m78_eq c k hs, Option.bind_some, bne_decide, decide_not]
  by_cases hr : wireE c k = 0
  · obtain ⟨V, k0, k1⟩ := wire_iff.1 hr
    have hwl := V.wl
    obtain ⟨m, e1, e1'⟩ := wire_at k0 k1
    rw [e1']
    have hmm := List.mem_of_getElem? e1
    obtain ⟨f0, f1, t0, t1, hft⟩ := V.wm m hmm
    have hme := hs.w m hmm
    have hdn := V.dn
    obtain ⟨r, e2, e2'⟩ := rep_at t0 t1
    obtain ⟨d, e3, e3'⟩ := down_at (c := c) t0 (by omega)
    rw [e2', e3']
    have hrs := shrt_of (V.rp _ _ e2).2
    have w : w64 (k + 1) = k + 1 := w64_id (by omega) (by omega)
    have b1 : (0 : Int) ≤ k + 1 := by omega
    have b2 : 0 ≤ k.toNat ∧ k.toNat = k.toNat ∧ k.toNat ≤ c.wire.length := by omega
    have b3 : (k + 1).toNat ≤ c.wire.length ∧ c.wire.length ≤ c.wire.length := by omega
    have b4 : (k + 1).toNat + (c.wire.length - (k + 1).toNat) ≤ c.wire.length := by omega
    have b5 : (c.wire.drop (k + 1).toNat).take (c.wire.length - (k + 1).toNat) = c.wire.drop (k + 1).toNat := List.take_of_length_le (by simp)
    have b6 : (k + 1).toNat = k.toNat + 1 := by omega
    have b7 : (c.wire.take k.toNat).length + (c.wire.drop (k + 1).toNat).length ≤ 4294967296 := by simp; omega
    have b8 : (0 : Int) ≤ k ∧ k < (c.2.1.length : Int) := ⟨k0, k1⟩
    have hcl := hs.cl
    have hWl : (cutOut c.wire k.toNat).length ≤ 1000 := by unfold cutOut; simp; omega
    have e113 := m60_eq c.cut m.frm m.to (by omega)
    have t2 : (0 : Int) ≤ m.2.2.1 ∧ m.2.2.1 < (c.1.length : Int) := ⟨t0, t1⟩
    have t3 : m.2.2.1.toNat < c.1.length := by have := t2.2; have := t2.1; omega
    simp only [hr, decide_true, sumE, sS, if_true, m51_eq c hs, w, k0, b1, b2, b3, b4, b5, b7, b8, and_self, e1, rowAt_G, rowG_int t0 e3, e113]
    have hW : cutOut c.wire k.toNat = c.wire.take k.toNat ++ c.wire.drop (k + 1).toNat := by unfold cutOut; rw [b6]
    rw [hW] at hWl ⊢
    have e34 := m74_eq (c.reps.length : Int) r m hrs
    have e37 := m75_eq (c.reps.length : Int) r m hrs
    have e52 := m76_eq (c.reps.length : Int) r m hrs hme
    have e53 := m77_eq (c.reps.length : Int) r m hrs
    have hh := hear_ents (c.reps.length : Int) r m
    have ha := accept_ents (c.reps.length : Int) r m
    clear b5 b7 hW hr V e1 e1' e2' e3'
    generalize c.wire.take k.toNat = u at hWl
    generalize c.wire.drop (k + 1).toNat = v at hWl
    have cases3 : u.isEmpty = true ∨ (u.isEmpty = false ∧ v.isEmpty = true ∧ u ++ v = u) ∨ (u.isEmpty = false ∧ v.isEmpty = false) := by
      cases u with
      | nil => exact .inl rfl
      | cons a u => cases v with
        | nil => exact .inr (.inl ⟨rfl, rfl, List.append_nil _⟩)
        | cons b v => exact .inr (.inr ⟨rfl, rfl⟩)
    have key : ∀ W : List MT, W = u ++ v → True := fun _ _ => trivial
    rcases cases3 with h1 | ⟨h1, h2, h3⟩ | ⟨h1, h2⟩
    · simp only [h1, cond_true]
      generalize u ++ v = W at hWl
      have hap : ∀ x : MT, W.length + [x].length ≤ 4294967296 := by intro x; simp; omega
      cases d
      · cases hic : isCut c.cut m.frm m.to
        · simp only [sumE, sS, Bool.false_eq_true, or_self, if_false, t2, t3, and_self, e2, beq_decide]
          unfold hearAny
          by_cases k1 : m.kind = 1
          · simp only [k1, decide_true, sumE, sS, if_true, e34, t2, t3, and_self]
            cases hb : (hear (c.reps.length : Int) r m).2.2
            · simp only [sumE, sS, Bool.false_eq_true, if_false, List.append_nil]
            · simp only [sumE, sS, if_true, hap]
              rw [← re_nil _ hh]
          by_cases k2 : m.kind = 2
          · simp only [Int.reduceEq, k1, k2, decide_true, decide_false, sumE, sS, if_true, if_false, e37, t2, t3, and_self, Bool.false_eq_true, List.append_nil]
          by_cases k3 : m.kind = 3
          · simp only [Int.reduceEq, k1, k2, k3, decide_true, decide_false, sumE, sS, if_true, if_false, e52, t2, t3, and_self]
            cases hb : (accept (c.reps.length : Int) r m).2.2
            · simp only [sumE, sS, Bool.false_eq_true, if_false, List.append_nil]
            · simp only [sumE, sS, if_true, hap]
              rw [← re_nil _ ha]
          by_cases k4 : m.kind = 4
          · simp only [Int.reduceEq, k1, k2, k3, k4, decide_true, decide_false, sumE, sS, if_true, if_false, e53, t2, t3, and_self, Bool.false_eq_true, List.append_nil]
          · simp only [k1, k2, k3, k4, decide_false, sumE, sS, if_false, t2, t3, and_self, Bool.false_eq_true, List.append_nil]
        · simp only [sumE, sS, Bool.false_eq_true, false_or, or_true, if_true]
      · simp only [sumE, sS, true_or, if_true]
    · simp only [h1, h2, cond_true, cond_false]
      rw [h3] at hWl ⊢
      generalize u = W at hWl
      have hap : ∀ x : MT, W.length + [x].length ≤ 4294967296 := by intro x; simp; omega
      cases d
      · cases hic : isCut c.cut m.frm m.to
        · simp only [sumE, sS, Bool.false_eq_true, or_self, if_false, t2, t3, and_self, e2, beq_decide]
          unfold hearAny
          by_cases k1 : m.kind = 1
          · simp only [k1, decide_true, sumE, sS, if_true, e34, t2, t3, and_self]
            cases hb : (hear (c.reps.length : Int) r m).2.2
            · simp only [sumE, sS, Bool.false_eq_true, if_false, List.append_nil]
            · simp only [sumE, sS, if_true, hap]
              rw [← re_nil _ hh]
          by_cases k2 : m.kind = 2
          · simp only [Int.reduceEq, k1, k2, decide_true, decide_false, sumE, sS, if_true, if_false, e37, t2, t3, and_self, Bool.false_eq_true, List.append_nil]
          by_cases k3 : m.kind = 3
          · simp only [Int.reduceEq, k1, k2, k3, decide_true, decide_false, sumE, sS, if_true, if_false, e52, t2, t3, and_self]
            cases hb : (accept (c.reps.length : Int) r m).2.2
            · simp only [sumE, sS, Bool.false_eq_true, if_false, List.append_nil]
            · simp only [sumE, sS, if_true, hap]
              rw [← re_nil _ ha]
          by_cases k4 : m.kind = 4
          · simp only [Int.reduceEq, k1, k2, k3, k4, decide_true, decide_false, sumE, sS, if_true, if_false, e53, t2, t3, and_self, Bool.false_eq_true, List.append_nil]
          · simp only [k1, k2, k3, k4, decide_false, sumE, sS, if_false, t2, t3, and_self, Bool.false_eq_true, List.append_nil]
        · simp only [sumE, sS, Bool.false_eq_true, false_or, or_true, if_true]
      · simp only [sumE, sS, true_or, if_true]
    · simp only [h1, h2, cond_false]
      generalize u ++ v = W at hWl
      have hap : ∀ x : MT, W.length + [x].length ≤ 4294967296 := by intro x; simp; omega
      cases d
      · cases hic : isCut c.cut m.frm m.to
        · simp only [sumE, sS, Bool.false_eq_true, or_self, if_false, t2, t3, and_self, e2, beq_decide]
          unfold hearAny
          by_cases k1 : m.kind = 1
          · simp only [k1, decide_true, sumE, sS, if_true, e34, t2, t3, and_self]
            cases hb : (hear (c.reps.length : Int) r m).2.2
            · simp only [sumE, sS, Bool.false_eq_true, if_false, List.append_nil]
            · simp only [sumE, sS, if_true, hap]
              rw [← re_nil _ hh]
          by_cases k2 : m.kind = 2
          · simp only [Int.reduceEq, k1, k2, decide_true, decide_false, sumE, sS, if_true, if_false, e37, t2, t3, and_self, Bool.false_eq_true, List.append_nil]
          by_cases k3 : m.kind = 3
          · simp only [Int.reduceEq, k1, k2, k3, decide_true, decide_false, sumE, sS, if_true, if_false, e52, t2, t3, and_self]
            cases hb : (accept (c.reps.length : Int) r m).2.2
            · simp only [sumE, sS, Bool.false_eq_true, if_false, List.append_nil]
            · simp only [sumE, sS, if_true, hap]
              rw [← re_nil _ ha]
          by_cases k4 : m.kind = 4
          · simp only [Int.reduceEq, k1, k2, k3, k4, decide_true, decide_false, sumE, sS, if_true, if_false, e53, t2, t3, and_self, Bool.false_eq_true, List.append_nil]
          · simp only [k1, k2, k3, k4, decide_false, sumE, sS, if_false, t2, t3, and_self, Bool.false_eq_true, List.append_nil]
        · simp only [sumE, sS, Bool.false_eq_true, false_or, or_true, if_true]
      · simp only [sumE, sS, true_or, if_true]
  · simp only [hr, decide_false, sumE, sS, if_false]

end Go.Proofs.YtfbikpbejkgegaaGreat

namespace Go.Proofs.YtfbikpbejkgegaaGreat
open Go Go.Abs Go.Raft
/-! ### Cuts are few -/
theorem nodup_lt : ∀ (N : Nat) (l : List Nat), l.Nodup → (∀ x ∈ l, x < N) → l.length ≤ N := by
  intro N
  induction N with
  | zero =>
    intro l _ h
    cases l with
    | nil => simp
    | cons a l => exact absurd (h a (by simp)) (by omega)
  | succ N ih =>
    intro l hn h
    by_cases hm : N ∈ l
    · have h1 := ih (l.erase N) (hn.erase N) (fun x hx => by
        have h2 := h x (List.mem_of_mem_erase hx)
        have h3 : x ≠ N := fun e => by subst e; exact (hn.not_mem_erase hx).elim
        omega)
      rw [List.length_erase_of_mem hm] at h1
      omega
    · have := ih l hn (fun x hx => by
        have h2 := h x hx
        have h3 : x ≠ N := fun e => hm (e ▸ hx)
        omega)
      omega

def key (p : CutT) : Nat := p.1.toNat * 8 + p.2.1.toNat

theorem cuts_nodup {n : Int} (hn : n ≤ 5) : ∀ {l pre : List CutT}, (pre.map key).Nodup → (∀ p ∈ pre, cutOK1 n p = true) → cutsOK n pre l = true → ((pre ++ l).map key).Nodup ∧ ∀ p ∈ pre ++ l, cutOK1 n p = true := by
  intro l
  induction l with
  | nil => intro pre h1 h2 _; rw [List.append_nil]; exact ⟨h1, h2⟩
  | cons x l ih =>
    intro pre h1 h2 h
    simp only [cutsOK, Bool.and_eq_true, Bool.not_eq_true'] at h
    obtain ⟨⟨hx, hic⟩, hl⟩ := h
    have hx' := hx
    simp only [cutOK1, Bool.and_eq_true, decide_eq_true_eq] at hx'
    have := ih (pre := pre ++ [x]) (by
      rw [List.map_append, List.nodup_append]
      refine ⟨h1, by simp, fun a ha b hb => ?_⟩
      simp at hb
      subst hb
      obtain ⟨p, hp, rfl⟩ := List.mem_map.1 ha
      have hp1 := h2 p hp
      simp only [cutOK1, Bool.and_eq_true, decide_eq_true_eq] at hp1
      intro e
      unfold key at e
      have e1 : p.1 = x.1 := by omega
      have e2 : p.2.1 = x.2.1 := by omega
      have : isCut pre x.1 x.2.1 = true := by
        unfold isCut
        rw [List.any_eq_true]
        refine ⟨p, hp, ?_⟩
        rw [Bool.and_eq_true, decide_eq_true_eq, decide_eq_true_eq]
        omega
      rw [hic] at this; cases this) (fun p hp => by
      rcases List.mem_append.1 hp with hp | hp
      · exact h2 p hp
      · simp at hp; subst hp; exact hx) hl
    rw [List.append_assoc, List.singleton_append] at this
    exact this

theorem cuts_len {n : Int} (hn : n ≤ 5) {l : List CutT} (h : cutsOK n [] l = true) : l.length ≤ 48 := by
  obtain ⟨h1, h2⟩ := cuts_nodup (pre := []) hn (by simp) (by simp) h
  rw [List.nil_append] at h1 h2
  have := nodup_lt 48 (l.map key) h1 (fun x hx => by
    obtain ⟨p, hp, rfl⟩ := List.mem_map.1 hx
    have := h2 p hp
    simp only [cutOK1, Bool.and_eq_true, decide_eq_true_eq] at this
    unfold key; omega)
  simpa using this

theorem cutsOK_snoc {n : Int} : ∀ {l pre : List CutT} {x : CutT}, cutsOK n pre l = true → cutOK1 n x = true → isCut (pre ++ l) x.1 x.2.1 = false → cutsOK n pre (l ++ [x]) = true := by
  intro l
  induction l with
  | nil =>
    intro pre x _ h2 h3
    rw [List.append_nil] at h3
    simp [cutsOK, h2, h3]
  | cons y l ih =>
    intro pre x h1 h2 h3
    simp only [cutsOK, Bool.and_eq_true, List.cons_append] at h1 ⊢
    exact ⟨h1.1, ih h1.2 h2 (by rw [List.append_assoc, List.singleton_append]; exact h3)⟩

/-! ### Good clusters -/
structure CG (c : CT) : Prop where
  n1 : 1 ≤ c.reps.length
  n5 : c.reps.length ≤ 5
  dn : c.down.length = c.reps.length
  wl : c.wire.length ≤ 256
  wm : ∀ m ∈ c.wire, 0 ≤ m.frm ∧ m.frm < (c.reps.length : Int) ∧ 0 ≤ m.to ∧ m.to < (c.reps.length : Int) ∧ m.frm ≠ m.to
  we : ∀ m ∈ c.wire, m.ents.length ≤ 256
  cs : cutsOK (c.reps.length : Int) [] c.cut = true
  gd : ∃ g, Inv c.reps.length c.reps g ∧ ∀ m ∈ c.wire, MsgOK c.reps.length g m

theorem CG.v {c : CT} (h : CG c) : VC c := by
  obtain ⟨g, hi, _⟩ := h.gd
  exact ⟨h.n1, h.n5, h.dn, h.wl, fun j r hj => ⟨(hi.nod j r hj).id, (hi.nod j r hj).chk⟩, h.wm, h.cs⟩

theorem VC.sh {c : CT} (V : VC c) (we : ∀ m ∈ c.wire, m.ents.length ≤ 1000000) : ShC c := by
  have h1 := V.n5
  have h2 := V.wl
  have h3 := V.dn
  have h4 := cuts_len (by omega) V.cs
  refine ⟨fun r hr => ?_, by omega, we, by omega, by omega, by omega⟩
  obtain ⟨j, hj⟩ := List.mem_iff_getElem?.1 hr
  exact shrt_of (V.rp j r hj).2

theorem CG.sh {c : CT} (h : CG c) : ShC c := h.v.sh fun m hm => by have := h.we m hm; omega

theorem CG.put {c : CT} (h : CG c) {reps' : List RT} {new : List MT} (hl : reps'.length = c.reps.length)
    (hs : ∀ g, Inv c.reps.length c.reps g → (∀ m ∈ c.wire, MsgOK c.reps.length g m) → Step c.reps.length g reps' new)
    {w' : List MT} (hw : ∀ m ∈ w', m ∈ c.wire ∨ m ∈ new)
    (hn : ∀ m ∈ new, (0 ≤ m.frm ∧ m.frm < (c.reps.length : Int) ∧ 0 ≤ m.to ∧ m.to < (c.reps.length : Int) ∧ m.frm ≠ m.to) ∧ m.ents.length ≤ 256)
    (hwl : w'.length ≤ 256) {down' : List Bool} (hd : down'.length = c.reps.length) {cut' : List CutT} (hc : cutsOK (c.reps.length : Int) [] cut' = true) : CG (cl reps' w' down' cut') := by
  obtain ⟨g, hi, hm⟩ := h.gd
  obtain ⟨g', a, b, d⟩ := hs g hi hm
  have h1 := h.n1
  have h5 := h.n5
  refine ⟨by show 1 ≤ reps'.length; omega, by show reps'.length ≤ 5; omega, by show down'.length = reps'.length; omega, hwl, ?_, ?_, by show cutsOK (reps'.length : Int) [] cut' = true; rw [hl]; exact hc, ?_⟩
  · intro m hm'
    show _ ∧ m.frm < (reps'.length : Int) ∧ _ ∧ m.to < (reps'.length : Int) ∧ _
    rw [hl]
    rcases hw m hm' with hm' | hm'
    · exact h.wm m hm'
    · exact (hn m hm').1
  · intro m hm'
    rcases hw m hm' with hm' | hm'
    · exact h.we m hm'
    · exact (hn m hm').2
  · show ∃ g, Inv reps'.length reps' g ∧ ∀ m ∈ w', MsgOK reps'.length g m
    rw [hl]
    refine ⟨g', a, fun m hm' => ?_⟩
    rcases hw m hm' with hm' | hm'
    · exact b m (hm m hm')
    · exact d m hm'

theorem CG.same {c : CT} (h : CG c) {w' : List MT} (hw : ∀ m ∈ w', m ∈ c.wire) (hwl : w'.length ≤ 256) {down' : List Bool} (hd : down'.length = c.reps.length) {cut' : List CutT} (hc : cutsOK (c.reps.length : Int) [] cut' = true) : CG (cl c.reps w' down' cut') :=
  h.put rfl (fun g hi _ => hi.refl) (new := []) (fun m hm => .inl (hw m hm)) (fun m hm => by cases hm) hwl hd hc

theorem CG.id {c : CT} (h : CG c) {i : Int} {r : RT} (hr : c.reps[i.toNat]? = some r) (i0 : 0 ≤ i) : r.id = i := by
  have := (h.v.rp _ _ hr).1; omega

theorem cg_stand {c : CT} (h : CG c) {i : Int} (h0 : (standC c i).1 = 0) : CG (standC c i).2 ∧ (standC c i).2.reps.length = c.reps.length := by
  unfold standC at h0 ⊢
  by_cases hr : readyE c i = 0
  · obtain ⟨V, i0, i1⟩ := ready_iff.1 hr
    obtain ⟨r, e1, e1'⟩ := rep_at i0 i1
    rw [if_pos hr] at h0 ⊢
    rw [e1'] at h0 ⊢
    split at h0
    · cases h0
    · rename_i hd
      rw [if_neg hd]
      simp only at h0 ⊢
      split at h0
      · rename_i hs
        rw [if_pos hs]
        split at h0
        · cases h0
        · rename_i hg
          rw [if_neg hg]
          have hid := h.id e1 i0
          have hC := (V.rp _ _ e1).2
          unfold stand at hs hg ⊢
          rw [if_pos (chk_iff.2 hC)] at hs hg ⊢
          split at hs
          · cases hs
          · rename_i ht
            rw [if_neg ht] at hg ⊢
            simp only at hg ⊢
            refine ⟨h.put (by simp) (fun g hi _ => hi.standS e1 ht) (new := asks (c.reps.length : Int) r) (fun m hm => List.mem_append.1 hm) ?_ (by show (c.wire ++ asks (c.reps.length : Int) r).length ≤ 256; rw [List.length_append]; omega) h.dn h.cs, List.length_set⟩
            intro m hm
            simp only [asks, List.mem_map, List.mem_filter, List.mem_range, decide_eq_true_eq] at hm
            obtain ⟨j, ⟨hj1, hj2⟩, rfl⟩ := hm
            simp only [mg_frm, mg_to, mg_ents]
            refine ⟨⟨by omega, by omega, by omega, by omega, fun e => hj2 e.symm⟩, by simp⟩
      · rename_i hs
        exact absurd h0 hs
  · rw [if_neg hr] at h0
    exact absurd h0 hr

theorem cg_propose {c : CT} (h : CG c) {i : Int} {o : OpT} (h0 : (proposeC c i o).1 = 0) : CG (proposeC c i o).2 ∧ (proposeC c i o).2.reps.length = c.reps.length := by
  unfold proposeC at h0 ⊢
  by_cases hr : readyE c i = 0
  · obtain ⟨V, i0, i1⟩ := ready_iff.1 hr
    obtain ⟨r, e1, e1'⟩ := rep_at i0 i1
    rw [if_pos hr] at h0 ⊢
    rw [e1'] at h0 ⊢
    split at h0
    · cases h0
    · rename_i hd
      rw [if_neg hd]
      simp only at h0 ⊢
      split at h0
      · rename_i hs
        rw [if_pos hs]
        unfold proposeE at hs ⊢
        have hC := (V.rp _ _ e1).2
        rw [if_pos (chk_iff.2 hC)] at hs ⊢
        split at hs
        · rename_i h2
          rw [if_pos h2]
          split at hs
          · cases hs
          · rename_i hh
            rw [if_neg hh]
            split at hs
            · rename_i hl
              rw [if_pos hl]
              exact ⟨h.put (by simp) (fun g hi _ => hi.proposeS e1 h2 hl o) (new := []) (fun m hm => .inl hm) (fun m hm => by cases hm) h.wl h.dn h.cs, List.length_set⟩
            · cases hs
        · cases hs
      · rename_i hs
        exact absurd h0 hs
  · rw [if_neg hr] at h0
    exact absurd h0 hr

theorem cg_beat {c : CT} (h : CG c) {i : Int} (h0 : (beatC c i).1 = 0) : CG (beatC c i).2 ∧ (beatC c i).2.reps = c.reps := by
  unfold beatC at h0 ⊢
  by_cases hr : readyE c i = 0
  · obtain ⟨V, i0, i1⟩ := ready_iff.1 hr
    obtain ⟨r, e1, e1'⟩ := rep_at i0 i1
    rw [if_pos hr] at h0 ⊢
    rw [e1'] at h0 ⊢
    split at h0
    · cases h0
    · rename_i hd
      rw [if_neg hd]
      split at h0
      · rename_i h2
        rw [if_pos h2]
        simp only at h0 ⊢
        split at h0
        · cases h0
        · rename_i hg
          rw [if_neg hg]
          have hid := h.id e1 i0
          have hC := (V.rp _ _ e1).2
          unfold appendsE at hg ⊢
          rw [if_pos ⟨chk_iff.2 hC, h2⟩] at hg ⊢
          refine ⟨h.put rfl (fun g hi _ => ⟨g, hi, fun _ h => h, hi.appends e1 h2⟩) (new := appends (c.reps.length : Int) r) (fun m hm => List.mem_append.1 hm) ?_ (by simp only [List.length_append]; omega) h.dn h.cs, rfl⟩
          intro m hm
          simp only [appends, List.mem_map, List.mem_filter, List.mem_range, decide_eq_true_eq] at hm
          obtain ⟨j, ⟨hj1, hj2⟩, rfl⟩ := hm
          simp only [mg_frm, mg_to, mg_ents]
          have := hC.ll
          refine ⟨⟨by omega, by omega, by omega, by omega, fun e => hj2 e.symm⟩, by simp only [List.length_drop]; omega⟩
      · cases h0
  · rw [if_neg hr] at h0
    exact absurd h0 hr

theorem cutOut_mem {l : List MT} {k : Nat} {m : MT} (h : m ∈ cutOut l k) : m ∈ l := by
  rcases List.mem_append.1 h with h | h
  · exact List.mem_of_mem_take h
  · exact List.mem_of_mem_drop h

theorem cutOut_len {l : List MT} {k : Nat} (h : k < l.length) : (cutOut l k).length = l.length - 1 := by
  unfold cutOut; simp; omega

theorem cg_drop {c : CT} (h : CG c) {k : Int} (h0 : (dropC c k).1 = 0) : CG (dropC c k).2 ∧ (dropC c k).2.reps = c.reps := by
  unfold dropC at h0 ⊢
  split at h0
  · rename_i hr
    rw [if_pos hr]
    obtain ⟨V, k0, k1⟩ := wire_iff.1 hr
    have := h.wl
    exact ⟨h.same (fun m hm => cutOut_mem hm) (by rw [cutOut_len (by omega)]; omega) h.dn h.cs, rfl⟩
  · rename_i hr; exact absurd h0 hr

theorem cg_double {c : CT} (h : CG c) {k : Int} (h0 : (doubleC c k).1 = 0) : CG (doubleC c k).2 ∧ (doubleC c k).2.reps = c.reps := by
  unfold doubleC at h0 ⊢
  split at h0
  · rename_i hr
    rw [if_pos hr]
    split at h0
    · cases h0
    · rename_i hg
      rw [if_neg hg]
      obtain ⟨V, k0, k1⟩ := wire_iff.1 hr
      obtain ⟨m, e1, e1'⟩ := wire_at k0 k1
      rw [e1']
      refine ⟨h.same (fun x hx => ?_) (by simp; omega) h.dn h.cs, rfl⟩
      rcases List.mem_append.1 hx with hx | hx
      · exact hx
      · simp at hx; subst hx; exact List.mem_of_getElem? e1
  · rename_i hr; exact absurd h0 hr

theorem hearAny_step {n : Nat} {reps : List RT} {g : Gh OpT} (hi : Inv n reps g) {i : Nat} {r : RT} (h : reps[i]? = some r) {m : MT} (hm : MsgOK n g m) :
    Step n g (reps.set i (hearAny (n : Int) r m).1) (if (hearAny (n : Int) r m).2.2 then [(hearAny (n : Int) r m).2.1] else []) := by
  unfold hearAny
  split
  · exact hi.hearS h hm
  split
  · exact hi.votedS h hm
  split
  · exact hi.acceptS h hm
  split
  · exact hi.appendedS h hm
  · exact hi.stay h

theorem hearAny_reply {n : Int} {r : RT} {m : MT} (h : (hearAny n r m).2.2 = true) : (hearAny n r m).2.1.frm = r.id ∧ (hearAny n r m).2.1.to = m.frm ∧ (hearAny n r m).2.1.ents = [] ∧ ((hearAny n r m).2.1.kind = 2 ∨ (hearAny n r m).2.1.kind = 4) ∧ (m.kind = 1 ∨ m.kind = 3) := by
  unfold hearAny at h ⊢
  by_cases h1 : m.kind = 1
  · rw [if_pos h1] at h ⊢
    unfold hear at h ⊢
    split
    · exact ⟨rfl, rfl, rfl, .inl rfl, .inl h1⟩
    · rename_i ho; rw [if_neg ho] at h; cases h
  rw [if_neg h1] at h ⊢
  by_cases h2 : m.kind = 2
  · rw [if_pos h2] at h; cases h
  rw [if_neg h2] at h ⊢
  by_cases h3 : m.kind = 3
  · rw [if_pos h3] at h ⊢
    unfold accept at h ⊢
    split
    · rename_i ha
      rw [if_pos ha] at h
      simp only at h ⊢
      split
      · rename_i hf
        rw [if_pos hf] at h
        split
        · exact ⟨rfl, rfl, rfl, .inr rfl, .inr h3⟩
        · rename_i hj; rw [if_neg hj] at h; cases h
      · exact ⟨rfl, rfl, rfl, .inr rfl, .inr h3⟩
    · rename_i ha; rw [if_neg ha] at h; cases h
  rw [if_neg h3] at h
  by_cases h4 : m.kind = 4
  · rw [if_pos h4] at h; cases h
  · rw [if_neg h4] at h; cases h

def weight (l : List MT) : Nat := (l.map fun m => if m.kind = 1 ∨ m.kind = 3 then 2 else 1).sum

theorem weight_append (a b : List MT) : weight (a ++ b) = weight a + weight b := by unfold weight; rw [List.map_append, List.sum_append]

theorem weight_pos (m : MT) (l : List MT) : weight (m :: l) = (if m.kind = 1 ∨ m.kind = 3 then 2 else 1) + weight l := by unfold weight; rw [List.map_cons, List.sum_cons]

theorem weight_cut {l : List MT} {k : Nat} {m : MT} (h : l[k]? = some m) : weight l = weight (cutOut l k) + (if m.kind = 1 ∨ m.kind = 3 then 2 else 1) := by
  have hk := (List.getElem?_eq_some_iff.1 h).1
  have e : l = l.take k ++ m :: l.drop (k + 1) := by
    conv => lhs; rw [← List.take_append_drop k l]
    rw [List.drop_eq_getElem_cons hk, (List.getElem?_eq_some_iff.1 h).2]
  conv => lhs; rw [e]
  rw [weight_append, weight_pos]
  unfold cutOut
  rw [weight_append]
  omega

theorem cg_deliver {c : CT} (h : CG c) {k : Int} (h0 : (deliverC c k).1 = 0) : CG (deliverC c k).2 ∧ (deliverC c k).2.reps.length = c.reps.length ∧ weight (deliverC c k).2.wire < weight c.wire ∧ (deliverC c k).2.down = c.down ∧ (deliverC c k).2.cut = c.cut := by
  unfold deliverC at h0 ⊢
  split at h0
  · rename_i hr
    rw [if_pos hr]
    obtain ⟨V, k0, k1⟩ := wire_iff.1 hr
    obtain ⟨m, e1, e1'⟩ := wire_at k0 k1
    rw [e1']
    have hmm := List.mem_of_getElem? e1
    obtain ⟨f0, f1, t0, t1, hft⟩ := V.wm m hmm
    have hwl := h.wl
    have hcl := cutOut_len (l := c.wire) (k := k.toNat) (by omega)
    have hwt := weight_cut e1
    simp only
    split
    · refine ⟨h.same (fun m hm => cutOut_mem hm) (by omega) h.dn h.cs, rfl, ?_, rfl, rfl⟩
      show weight (cutOut c.wire k.toNat) < _
      rw [hwt]; split <;> omega
    · obtain ⟨r, e2, e2'⟩ := rep_at t0 t1
      rw [e2']
      have hid := h.id e2 t0
      have hC := (V.rp _ _ e2).2
      have hrep := hearAny_reply (n := (c.reps.length : Int)) (r := r) (m := m)
      refine ⟨h.put (by simp) (fun g hi hm => hearAny_step hi e2 (hm m hmm)) (fun x hx => (List.mem_append.1 hx).imp (fun a => cutOut_mem a) (fun a => a)) ?_ ?_ h.dn h.cs, List.length_set, ?_, rfl, rfl⟩
      · intro x hx
        cases hb : (hearAny (c.reps.length : Int) r m).2.2
        · rw [hb] at hx; simp at hx
        · rw [hb] at hx
          simp at hx
          subst hx
          obtain ⟨a1, a2, a3, _, _⟩ := hrep hb
          rw [a1, a2, a3, hid]
          exact ⟨⟨t0, t1, f0, f1, fun e => hft e.symm⟩, by simp⟩
      · rw [List.length_append, hcl]
        split <;> simp <;> omega
      · show weight (cutOut c.wire k.toNat ++ _) < _
        rw [weight_append, hwt]
        cases hb : (hearAny (c.reps.length : Int) r m).2.2
        · simp only [Bool.false_eq_true, if_false]
          show weight (cutOut c.wire k.toNat) + weight [] < _
          have : weight [] = 0 := rfl
          split <;> omega
        · obtain ⟨_, _, _, a4, a5⟩ := hrep hb
          simp only [if_true]
          rw [if_pos a5, weight_pos, if_neg (by omega)]
          have : weight [] = 0 := rfl
          omega
  · rename_i hr; exact absurd h0 hr

theorem cg_crash {c : CT} (h : CG c) {i : Int} (h0 : (crashC c i).1 = 0) : CG (crashC c i).2 ∧ (crashC c i).2.reps = c.reps := by
  unfold crashC at h0 ⊢
  split at h0
  · rename_i hr
    rw [if_pos hr]
    split at h0
    · cases h0
    · rename_i hd
      rw [if_neg hd]
      exact ⟨h.same (fun m hm => hm) h.wl (by simp [h.dn]) h.cs, rfl⟩
  · rename_i hr; exact absurd h0 hr

theorem cg_restart {c : CT} (h : CG c) {i : Int} (h0 : (restartC c i).1 = 0) : CG (restartC c i).2 ∧ (restartC c i).2.reps.length = c.reps.length := by
  unfold restartC at h0 ⊢
  split at h0
  · rename_i hr
    rw [if_pos hr]
    split at h0
    · rename_i hd
      rw [if_pos hd]
      obtain ⟨V, i0, i1⟩ := ready_iff.1 hr
      obtain ⟨r, e1, e1'⟩ := rep_at i0 i1
      rw [e1']
      unfold restartE
      rw [if_pos (chk_iff.2 (V.rp _ _ e1).2)]
      exact ⟨h.put (by simp) (fun g hi _ => (hi.restart e1).refl) (new := []) (fun m hm => .inl hm) (fun m hm => by cases hm) h.wl (by simp [h.dn]) h.cs, List.length_set⟩
    · cases h0
  · rename_i hr; exact absurd h0 hr

theorem isCut_mm (l : List CutT) (i j : Int) : isCut l (min i j) (max i j) = isCut l i j := by
  unfold isCut
  rw [show min (min i j) (max i j) = min i j by omega, show max (min i j) (max i j) = max i j by omega]

theorem cg_cut {c : CT} (h : CG c) {i j : Int} (h0 : (cutC c i j).1 = 0) : CG (cutC c i j).2 ∧ (cutC c i j).2.reps = c.reps := by
  unfold cutC at h0 ⊢
  split at h0
  · rename_i hr
    rw [if_pos hr]
    obtain ⟨V, i0, i1⟩ := ready_iff.1 hr
    split at h0
    · rename_i hj
      rw [if_pos hj]
      rw [inn_iff] at hj
      split at h0
      · cases h0
      · rename_i hij
        rw [if_neg hij]
        split at h0
        · cases h0
        · rename_i hic
          rw [if_neg hic]
          refine ⟨h.same (fun m hm => hm) h.wl h.dn (cutsOK_snoc h.cs ?_ ?_), rfl⟩
          · simp only [cutOK1, Bool.and_eq_true, decide_eq_true_eq]
            omega
          · rw [List.nil_append, isCut_mm]
            simpa using hic
    · cases h0
  · rename_i hr; exact absurd h0 hr

theorem cg_heal {c : CT} (h : CG c) : CG (healC c) ∧ (healC c).reps = c.reps ∧ (healC c).wire = c.wire ∧ (healC c).down = c.down := by
  unfold healC
  rw [if_pos (chkC_iff.2 h.v)]
  exact ⟨h.same (fun m hm => hm) h.wl h.dn rfl, rfl, rfl, rfl⟩

theorem cg_new {n : Int} (h1 : 1 ≤ n) (h5 : n ≤ 5) : CG (newC n) ∧ (newC n).reps.length = n.toNat := by
  have hl : (newC n).reps.length = n.toNat := by show ((List.range n.toNat).map (rep0 : Nat → RT)).length = n.toNat; simp
  refine ⟨⟨by rw [hl]; omega, by rw [hl]; omega, by rw [hl]; show (List.replicate n.toNat false).length = n.toNat; simp, Nat.zero_le _, fun m hm => (by cases hm), fun m hm => (by cases hm), rfl, ?_⟩, hl⟩
  rw [hl]
  exact ⟨_, inv0 (by omega), fun m hm => (by cases hm)⟩

/-! ### Terms -/
def TB (c : CT) (T : Int) : Prop := (∀ r ∈ c.reps, r.term ≤ T) ∧ ∀ m ∈ c.wire, m.term ≤ T

theorem TB.le {c : CT} {T U : Int} (h : TB c T) (hu : T ≤ U) : TB c U := ⟨fun r hr => by have := h.1 r hr; omega, fun m hm => by have := h.2 m hm; omega⟩

theorem TB.put {c : CT} {T U : Int} (h : TB c T) (hu : T ≤ U) {i : Nat} {r' : RT} (hr : r'.term ≤ U) {w' : List MT} (hw : ∀ m ∈ w', m ∈ c.wire ∨ m.term ≤ U) {d : List Bool} {k : List CutT} : TB (cl (c.reps.set i r') w' d k) U := by
  refine ⟨fun r hr' => ?_, fun m hm => ?_⟩
  · rcases List.mem_or_eq_of_mem_set hr' with hr' | hr'
    · have := h.1 r hr'; omega
    · subst hr'; exact hr
  · rcases hw m hm with hm | hm
    · have := h.2 m hm; omega
    · exact hm

theorem TB.same {c : CT} {T : Int} (h : TB c T) {w' : List MT} (hw : ∀ m ∈ w', m ∈ c.wire ∨ m.term ≤ T) {d : List Bool} {k : List CutT} : TB (cl c.reps w' d k) T := by
  refine ⟨h.1, fun m hm => ?_⟩
  rcases hw m hm with hm | hm
  · exact h.2 m hm
  · exact hm

theorem fol_term (r : RT) (t : Int) : (fol r t).term ≤ max r.term t := by
  unfold fol; split
  · show t ≤ _; omega
  · omega

theorem back_term' (r : RT) (t : Int) : (back r t).term ≤ max r.term t := by
  have := fol_term r t
  unfold back; simp only; split
  · exact this
  · exact this

theorem hearAny_term (n : Int) (r : RT) (m : MT) : (hearAny n r m).1.term ≤ max r.term m.term ∧ ((hearAny n r m).2.2 = true → (hearAny n r m).2.1.term ≤ max r.term m.term) := by
  have hf := fol_term r m.term
  have hb := back_term' r m.term
  have hs : r.term ≤ max r.term m.term := by omega
  unfold hearAny
  split
  · unfold hear
    split
    · refine ⟨?_, fun _ => hf⟩
      unfold hearR; simp only; split
      · exact hf
      · exact hf
    · exact ⟨hs, fun h => by cases h⟩
  split
  · refine ⟨?_, fun h => by cases h⟩
    show (voted n r m).term ≤ _
    unfold voted; split
    · split
      · exact hf
      · split
        · unfold votedR; simp only; split <;> exact hs
        · exact hs
    · exact hs
  split
  · unfold accept
    split
    · simp only
      split
      · split
        · exact ⟨hb, fun _ => hb⟩
        · exact ⟨hs, fun h => by cases h⟩
      · exact ⟨hb, fun _ => hb⟩
    · exact ⟨hs, fun h => by cases h⟩
  split
  · refine ⟨?_, fun h => by cases h⟩
    show (appended n r m).term ≤ _
    unfold appended; split
    · split
      · exact hf
      · split
        · exact hs
        · exact hs
    · exact hs
  · exact ⟨hs, fun h => by cases h⟩

theorem tb_stand {c : CT} {T : Int} (h : CG c) (ht : TB c T) {i : Int} (h0 : (standC c i).1 = 0) : TB (standC c i).2 (T + 1) := by
  unfold standC at h0 ⊢
  by_cases hr : readyE c i = 0
  · obtain ⟨V, i0, i1⟩ := ready_iff.1 hr
    obtain ⟨r, e1, e1'⟩ := rep_at i0 i1
    have htr := ht.1 r (List.mem_of_getElem? e1)
    rw [if_pos hr] at h0 ⊢
    rw [e1'] at h0 ⊢
    split at h0
    · cases h0
    · rename_i hd
      rw [if_neg hd]
      simp only at h0 ⊢
      split at h0
      · rename_i hs
        rw [if_pos hs]
        split at h0
        · cases h0
        · rename_i hg
          rw [if_neg hg]
          have hC := (V.rp _ _ e1).2
          unfold stand at hs ⊢
          rw [if_pos (chk_iff.2 hC)] at hs ⊢
          split at hs
          · cases hs
          · rename_i htm
            rw [if_neg htm]
            refine ht.put (by omega) ?_ (fun m hm => (List.mem_append.1 hm).imp id fun hm => ?_)
            · show (standR _ r).term ≤ _
              unfold standR; simp only; split <;> (show r.term + 1 ≤ T + 1; omega)
            · simp only [asks, List.mem_map] at hm
              obtain ⟨j, _, rfl⟩ := hm
              show r.term + 1 ≤ T + 1; omega
      · rename_i hs
        exact absurd h0 hs
  · rw [if_neg hr] at h0
    exact absurd h0 hr

theorem tb_propose {c : CT} {T : Int} (h : CG c) (ht : TB c T) {i : Int} {o : OpT} (h0 : (proposeC c i o).1 = 0) : TB (proposeC c i o).2 T := by
  unfold proposeC at h0 ⊢
  by_cases hr : readyE c i = 0
  · obtain ⟨V, i0, i1⟩ := ready_iff.1 hr
    obtain ⟨r, e1, e1'⟩ := rep_at i0 i1
    have htr := ht.1 r (List.mem_of_getElem? e1)
    rw [if_pos hr] at h0 ⊢
    rw [e1'] at h0 ⊢
    split at h0
    · cases h0
    · rename_i hd
      rw [if_neg hd]
      simp only at h0 ⊢
      split at h0
      · rename_i hs
        rw [if_pos hs]
        refine ht.put (Int.le_refl _) ?_ (fun m hm => .inl hm)
        unfold proposeE at hs ⊢
        rw [if_pos (chk_iff.2 (V.rp _ _ e1).2)] at hs ⊢
        split at hs
        · rename_i h2
          rw [if_pos h2]
          split at hs
          · cases hs
          · rename_i hh
            rw [if_neg hh]
            split at hs
            · rename_i hl
              rw [if_pos hl]
              exact htr
            · cases hs
        · cases hs
      · rename_i hs
        exact absurd h0 hs
  · rw [if_neg hr] at h0
    exact absurd h0 hr

theorem tb_beat {c : CT} {T : Int} (ht : TB c T) {i : Int} (h0 : (beatC c i).1 = 0) : TB (beatC c i).2 T := by
  unfold beatC at h0 ⊢
  by_cases hr : readyE c i = 0
  · obtain ⟨V, i0, i1⟩ := ready_iff.1 hr
    obtain ⟨r, e1, e1'⟩ := rep_at i0 i1
    have htr := ht.1 r (List.mem_of_getElem? e1)
    rw [if_pos hr] at h0 ⊢
    rw [e1'] at h0 ⊢
    split at h0
    · cases h0
    · rename_i hd
      rw [if_neg hd]
      split at h0
      · rename_i h2
        rw [if_pos h2]
        simp only at h0 ⊢
        split at h0
        · cases h0
        · rename_i hg
          rw [if_neg hg]
          refine ht.same fun m hm => (List.mem_append.1 hm).imp id fun hm => ?_
          unfold appendsE at hm
          split at hm
          · simp only [appends, List.mem_map] at hm
            obtain ⟨j, _, rfl⟩ := hm
            exact htr
          · cases hm
      · cases h0
  · rw [if_neg hr] at h0
    exact absurd h0 hr

theorem tb_drop {c : CT} {T : Int} (ht : TB c T) {k : Int} (h0 : (dropC c k).1 = 0) : TB (dropC c k).2 T := by
  unfold dropC at h0 ⊢
  split at h0
  · rename_i hr
    rw [if_pos hr]
    exact ht.same fun m hm => .inl (cutOut_mem hm)
  · rename_i hr; exact absurd h0 hr

theorem tb_double {c : CT} {T : Int} (ht : TB c T) {k : Int} (h0 : (doubleC c k).1 = 0) : TB (doubleC c k).2 T := by
  unfold doubleC at h0 ⊢
  split at h0
  · rename_i hr
    rw [if_pos hr]
    split at h0
    · cases h0
    · rename_i hg
      rw [if_neg hg]
      obtain ⟨V, k0, k1⟩ := wire_iff.1 hr
      obtain ⟨m, e1, e1'⟩ := wire_at k0 k1
      rw [e1']
      refine ht.same fun x hx => (List.mem_append.1 hx).imp id fun hx => ?_
      simp at hx; subst hx
      exact ht.2 _ (List.mem_of_getElem? e1)
  · rename_i hr; exact absurd h0 hr

theorem tb_deliver {c : CT} {T : Int} (ht : TB c T) {k : Int} (h0 : (deliverC c k).1 = 0) : TB (deliverC c k).2 T := by
  unfold deliverC at h0 ⊢
  split at h0
  · rename_i hr
    rw [if_pos hr]
    obtain ⟨V, k0, k1⟩ := wire_iff.1 hr
    obtain ⟨m, e1, e1'⟩ := wire_at k0 k1
    rw [e1']
    have hmm := List.mem_of_getElem? e1
    obtain ⟨_, _, t0, t1, _⟩ := V.wm m hmm
    simp only
    split
    · exact ht.same fun m hm => .inl (cutOut_mem hm)
    · obtain ⟨r, e2, e2'⟩ := rep_at t0 t1
      rw [e2']
      have h1 := ht.1 r (List.mem_of_getElem? e2)
      have h2 := ht.2 m hmm
      obtain ⟨a1, a2⟩ := hearAny_term (c.reps.length : Int) r m
      refine ht.put (Int.le_refl _) (by omega) fun x hx => (List.mem_append.1 hx).imp (fun a => cutOut_mem a) fun hx => ?_
      cases hb : (hearAny (c.reps.length : Int) r m).2.2
      · rw [hb] at hx; simp at hx
      · rw [hb] at hx
        simp at hx
        subst hx
        have := a2 hb
        omega
  · rename_i hr; exact absurd h0 hr

theorem tb_crash {c : CT} {T : Int} (ht : TB c T) {i : Int} (h0 : (crashC c i).1 = 0) : TB (crashC c i).2 T := by
  unfold crashC at h0 ⊢
  split at h0
  · rename_i hr
    rw [if_pos hr]
    split at h0
    · cases h0
    · rename_i hd
      rw [if_neg hd]
      exact ht.same fun m hm => .inl hm
  · rename_i hr; exact absurd h0 hr

theorem tb_restart {c : CT} {T : Int} (ht : TB c T) {i : Int} (h0 : (restartC c i).1 = 0) : TB (restartC c i).2 T := by
  unfold restartC at h0 ⊢
  split at h0
  · rename_i hr
    rw [if_pos hr]
    split at h0
    · rename_i hd
      rw [if_pos hd]
      obtain ⟨V, i0, i1⟩ := ready_iff.1 hr
      obtain ⟨r, e1, e1'⟩ := rep_at i0 i1
      rw [e1']
      unfold restartE
      rw [if_pos (chk_iff.2 (V.rp _ _ e1).2)]
      exact ht.put (r' := restartR r) (Int.le_refl _) (ht.1 r (List.mem_of_getElem? e1)) fun m hm => .inl hm
    · cases h0
  · rename_i hr; exact absurd h0 hr

theorem tb_cut {c : CT} {T : Int} (ht : TB c T) {i j : Int} (h0 : (cutC c i j).1 = 0) : TB (cutC c i j).2 T := by
  unfold cutC at h0 ⊢
  split at h0
  · rename_i hr
    rw [if_pos hr]
    split at h0
    · rename_i hj
      rw [if_pos hj]
      split at h0
      · cases h0
      · rename_i hij
        rw [if_neg hij]
        split at h0
        · cases h0
        · rename_i hic
          rw [if_neg hic]
          exact ht.same fun m hm => .inl hm
    · cases h0
  · rename_i hr; exact absurd h0 hr

theorem tb_heal {c : CT} {T : Int} (h : CG c) (ht : TB c T) : TB (healC c) T := by
  unfold healC
  rw [if_pos (chkC_iff.2 h.v)]
  exact ht.same fun m hm => .inl hm

theorem tb_new (n : Int) : TB (newC n) 0 := by
  refine ⟨fun r hr => ?_, fun m hm => by cases hm⟩
  have hr : r ∈ (List.range n.toNat).map (rep0 : Nat → RT) := hr
  obtain ⟨j, _, rfl⟩ := List.mem_map.1 hr
  exact Int.le_refl _

end Go.Proofs.YtfbikpbejkgegaaGreat

namespace Go.Proofs.YtfbikpbejkgegaaGreat
open Go Go.Abs Go.Raft
theorem deliver_zero {c : CT} (V : VC c) (h : c.wire ≠ []) : (deliverC c 0).1 = 0 := by
  have hl := List.length_pos_iff.2 h
  have hw : wireE c 0 = 0 := wire_iff.2 ⟨V, Int.le_refl _, by omega⟩
  unfold deliverC
  rw [if_pos hw]
  simp only
  split <;> rfl

/-- Delivering all messages. -/
theorem flush_ok : ∀ (w : Nat) (c : CT), weight c.wire ≤ w → CG c → ∃ c' : CT, loopT l82_0_1 ((), (u2, ((c, ()), ()))) = some ((), (u2, ((c', ()), ()))) ∧ CG c' ∧ c'.wire = [] ∧ c'.reps.length = c.reps.length ∧ c'.down = c.down ∧ c'.cut = c.cut ∧ ∀ T, TB c T → TB c' T := by
  have base : ∀ c : CT, c.wire = [] → loopT l82_0_1 ((), (u2, ((c, ()), ()))) = some ((), (u2, ((c, ()), ()))) := by
    intro c h
    refine loopT_inr ?_
    have : ¬ (c.2.1.length : Int) > 0 := by show ¬ (c.wire.length : Int) > 0; rw [h]; simp
    simp only [l82_0_1, decide_eq_false this, sumE, sS]
  intro w
  induction w with
  | zero =>
    intro c hw h
    have : c.wire = [] := by
      cases hc : c.wire with
      | nil => rfl
      | cons m l => rw [hc, weight_pos] at hw; split at hw <;> omega
    exact ⟨c, base c this, h, this, rfl, rfl, rfl, fun _ h => h⟩
  | succ w ih =>
    intro c hw h
    by_cases hc : c.wire = []
    · exact ⟨c, base c hc, h, hc, rfl, rfl, rfl, fun _ h => h⟩
    · have h0 := deliver_zero h.v hc
      obtain ⟨g1, g2, g3, g4, g5⟩ := cg_deliver h h0
      obtain ⟨c', a1, a2, a3, a4, a5, a6, a7⟩ := ih (deliverC c 0).2 (by omega) g1
      refine ⟨c', ?_, a2, a3, by rw [a4, g2], by rw [a5, g4], by rw [a6, g5], fun T hT => a7 T (tb_deliver hT h0)⟩
      rw [← a1]
      refine loopT_inl ?_
      have hp : (c.2.1.length : Int) > 0 := by have := List.length_pos_iff.2 hc; show (c.wire.length : Int) > 0; omega
      simp only [l82_0_1, decide_eq_true hp, sumE, sS, m34_eq c 0 h.sh, h0]

theorem m82_ok {c : CT} (h : CG c) : ∃ c' : CT, m82 ((c, ()), ()) = some ((), ((c', ()), ())) ∧ CG c' ∧ c'.wire = [] ∧ c'.reps.length = c.reps.length ∧ c'.down = c.down ∧ c'.cut = c.cut ∧ ∀ T, TB c T → TB c' T := by
  obtain ⟨c', a1, a2⟩ := flush_ok _ c (Nat.le_refl _) h
  refine ⟨c', ?_, a2⟩
  unfold m82
  simp only []
  rw [show loopT l82_0_1 ((), (((), ()), ((c, ()), ()))) = _ from a1]
  rfl

theorem beat_zero {c : CT} (h : CG c) {i : Int} (i0 : 0 ≤ i) (i1 : i < (c.reps.length : Int)) (hd : downAt c i = false) (hr : (repAt c i).role = 2) (hw : c.wire = []) : (beatC c i).1 = 0 := by
  unfold beatC
  rw [if_pos (ready_iff.2 ⟨h.v, i0, i1⟩), if_neg (by rw [hd]; simp), if_pos hr]
  simp only
  have := appends_len (c.reps.length : Int) (repAt c i)
  rw [if_neg (by rw [hw]; simp; omega)]

theorem settle_loop {i : Int} (i0 : 0 ≤ i) : ∀ (k j : Nat) (c : CT), j + k = 2 → CG c → i < (c.reps.length : Int) → downAt c i = false → c.wire = [] → ∃ c' : CT, loopT l41_0_11 (((j : Int), i, ()), ((c, ()), (u2, ()))) = some ((), (u2, ((c', ()), ()))) ∧ CG c' ∧ c'.reps.length = c.reps.length ∧ (∀ T, TB c T → TB c' T) ∧ c'.wire = [] := by
  intro k
  induction k with
  | zero =>
    intro j c hj h _ _ hw
    refine ⟨c, loopT_inr ?_, h, rfl, fun _ h => h, hw⟩
    have : ¬ (j : Int) < 2 := by omega
    simp only [l41_0_11, decide_eq_false this, sumE, sS]
  | succ k ih =>
    intro j c hj h i1 hd hw
    have hlt : (j : Int) < 2 := by omega
    obtain ⟨r, e1, e1'⟩ := rep_at (c := c) i0 i1
    by_cases hr : r.role = 2
    · have h0 := beat_zero h i0 i1 hd (by rw [e1']; exact hr) hw
      obtain ⟨g1, g2⟩ := cg_beat h h0
      obtain ⟨c1, a1, a2, a3, a4, a5, a6, a7⟩ := m82_ok g1
      have hlen : c1.reps.length = c.reps.length := by rw [a4, g2]
      have hdown : (beatC c i).2.down = c.down := by
        unfold beatC
        rw [if_pos (ready_iff.2 ⟨h.v, i0, i1⟩), if_neg (by rw [hd]; simp), if_pos (by rw [e1']; exact hr)]
        simp only
        split
        · rename_i hg; exfalso
          have := appends_len (c.reps.length : Int) (repAt c i)
          rw [hw] at hg; simp at hg; omega
        · rfl
      obtain ⟨c', b1, b2, b3, b4, b5⟩ := ih (j + 1) c1 (by omega) a2 (by omega) (by show (c1.down[i.toNat]?.getD false) = false; rw [a5, hdown]; exact hd) a3
      refine ⟨c', ?_, b2, by rw [b3, hlen], fun T hT => b4 T (a7 T (tb_beat hT h0)), b5⟩
      rw [← b1]
      refine loopT_inl ?_
      have hr' : (r.2.2.2.1 : Int) = 2 := hr
      simp only [l41_0_11, decide_eq_true hlt, sumE, sS, rowAt_G, rowG_int i0 e1, beq_decide, decide_eq_true hr', m33_eq c i h.sh]
      rw [show m82 (((((beatC c i).2.1, ((beatC c i).2.2.1, ((beatC c i).2.2.2.1, ((beatC c i).2.2.2.2.1, ())))) : CT), ()), ()) = some ((), ((c1, ()), ())) from a1]
      simp only [Option.bind_some, w64_nat (show j ≤ 4294967296 by omega)]
    · refine ⟨c, loopT_inr ?_, h, rfl, fun _ h => h, hw⟩
      have hr' : ¬ (r.2.2.2.1 : Int) = 2 := hr
      simp only [l41_0_11, decide_eq_true hlt, sumE, sS, rowAt_G, rowG_int i0 e1, beq_decide, decide_eq_false hr']

/-- Settle gives an error or a good cluster of the same size. -/
theorem m41_okw {c : CT} (h : CG c) (i : Int) : ∃ (e : Int) (c' : CT), m41 ((c, i, ()), ()) = some ((e, ()), ((c', ()), ())) ∧ (e = 0 → CG c' ∧ c'.reps.length = c.reps.length ∧ (∀ T, TB c T → TB c' (T + 1)) ∧ c'.wire = []) ∧ (e ≠ 0 → c' = zeroC) ∧ (readyE c i = 0 → (standC (cl c.reps [] c.down c.cut) i).1 = 0 → e = 0) := by
  unfold m41
  simp only [m61_eq c i h.sh, Option.bind_some, bne_decide, decide_not]
  by_cases hr : readyE c i = 0
  · obtain ⟨V, i0, i1⟩ := ready_iff.1 hr
    simp only [hr, decide_true, sumE, sS, m51_eq c h.sh]
    have h1 : CG (cl c.reps [] c.down c.cut) := h.same (fun m hm => (by cases hm)) (Nat.zero_le _) h.dn h.cs
    rw [show m29 (((c.reps, ([], (c.down, (c.cut, ())))), (i, ())), ()) = _ from m29_eq (cl c.reps [] c.down c.cut) i h1.sh]
    simp only [Option.bind_some]
    by_cases h0 : (standC (cl c.reps [] c.down c.cut) i).1 = 0
    · obtain ⟨g1, g2⟩ := cg_stand h1 h0
      obtain ⟨c1, a1, a2, a3, a4, a5, a6, a7⟩ := m82_ok g1
      simp only [h0, decide_true, sumE, sS]
      rw [show m82 (((((standC (cl c.reps [] c.down c.cut) i).2.1, ((standC (cl c.reps [] c.down c.cut) i).2.2.1, ((standC (cl c.reps [] c.down c.cut) i).2.2.2.1, ((standC (cl c.reps [] c.down c.cut) i).2.2.2.2.1, ())))) : CT), ()), ()) = some ((), ((c1, ()), ())) from a1]
      have hd : downAt c i = false ∧ (standC (cl c.reps [] c.down c.cut) i).2.down = c.down := by
        unfold standC at h0 ⊢
        rw [if_pos (ready_iff.2 ⟨h1.v, i0, i1⟩)] at h0 ⊢
        split at h0
        · cases h0
        · rename_i hd
          refine ⟨by simpa using hd, ?_⟩
          rw [if_neg hd]
          simp only at h0 ⊢
          split at h0
          · rename_i hs
            rw [if_pos hs]
            split at h0
            · cases h0
            · rename_i hg; rw [if_neg hg]
          · rename_i hs; exact absurd h0 hs
      have hlen : c1.reps.length = c.reps.length := by rw [a4, g2]
      obtain ⟨c', b1, b2, b3, b4, b5⟩ := settle_loop i0 2 0 c1 rfl a2 (by omega) (by show (c1.down[i.toNat]?.getD false) = false; rw [a5, hd.2]; exact hd.1) a3
      refine ⟨0, c', ?_, fun _ => ⟨b2, by rw [b3, hlen], fun T hT => b4 _ (a7 _ (tb_stand h1 (hT.same (fun m hm => (by cases hm))) h0)), b5⟩, fun hn => absurd rfl hn, fun _ _ => rfl⟩
      simp only [Option.bind_some]
      rw [show loopT l41_0_11 ((0, (i, ())), ((c1, ()), (((), ()), ()))) = _ from b1]
      rfl
    · simp only [h0, decide_false, sumE, sS]
      exact ⟨(standC (cl c.reps [] c.down c.cut) i).1, zeroC, rfl, fun e => absurd e h0, fun _ => rfl, fun _ e => False.elim e⟩
  · simp only [hr, decide_false, sumE, sS]
    exact ⟨readyE c i, zeroC, rfl, fun e => absurd e hr, fun _ => rfl, fun e => False.elim e⟩

/-! ### Leader -/
def leadL (reps : List RT) (down : List Bool) : Nat → List RT → Int → Bool → Int × Bool
  | _, [], b, f => (b, f)
  | i, r :: l, b, f =>
    if decide (r.role = 2) && !(down[i]?.getD false) && (!f || decide (r.term > (reps[b.toNat]?.getD zeroR).term)) then leadL reps down (i + 1) l (i : Int) true else leadL reps down (i + 1) l b f

def leaderC (c : CT) : Int × Bool := if chkC c = true then leadL c.reps c.down 0 c.reps 0 false else (0, false)

theorem leadL_spec (reps : List RT) (down : List Bool) : ∀ (l : List RT) (i : Nat) (b : Int) (f : Bool), reps.drop i = l → (f = true → 0 ≤ b ∧ b < (reps.length : Int) ∧ (reps[b.toNat]?.getD zeroR).role = 2 ∧ (down[b.toNat]?.getD false) = false) →
    (leadL reps down i l b f).2 = true → 0 ≤ (leadL reps down i l b f).1 ∧ (leadL reps down i l b f).1 < (reps.length : Int) ∧ (reps[(leadL reps down i l b f).1.toNat]?.getD zeroR).role = 2 ∧ (down[(leadL reps down i l b f).1.toNat]?.getD false) = false := by
  intro l
  induction l with
  | nil => intro i b f _ hf h; exact hf h
  | cons r l ih =>
    intro i b f hd hf h
    have hi : reps[i]? = some r := by
      have := congrArg (fun l => l[0]?) hd
      simpa using this
    have hd' : reps.drop (i + 1) = l := by
      rw [← List.drop_drop, hd]; rfl
    unfold leadL at h ⊢
    split at h
    · rename_i hc
      rw [if_pos hc]
      refine ih (i + 1) (i : Int) true hd' (fun _ => ?_) h
      simp only [Bool.and_eq_true, Bool.not_eq_true', decide_eq_true_eq] at hc
      have := (List.getElem?_eq_some_iff.1 hi).1
      refine ⟨by omega, by omega, ?_, ?_⟩
      · rw [Int.toNat_natCast, hi]; exact hc.1.1
      · rw [Int.toNat_natCast]; exact hc.1.2
    · rename_i hc
      rw [if_neg hc]
      exact ih (i + 1) b f hd' hf h

theorem leader_spec {c : CT} (h : (leaderC c).2 = true) : VC c ∧ 0 ≤ (leaderC c).1 ∧ (leaderC c).1 < (c.reps.length : Int) ∧ (repAt c (leaderC c).1).role = 2 ∧ downAt c (leaderC c).1 = false := by
  unfold leaderC at h ⊢
  split at h
  · rename_i hc
    rw [if_pos hc]
    exact ⟨chkC_iff.1 hc, leadL_spec c.reps c.down c.reps 0 0 false rfl (fun h => by cases h) h⟩
  · cases h

theorem loop43 (reps : List RT) (wire : List MT) (down : List Bool) (cut : List CutT) (hs : ShC (cl reps wire down cut)) (V : VC (cl reps wire down cut)) : ∀ (k i : Nat) (b : Int) (f : Bool), i + k = reps.length → 0 ≤ b → b < (reps.length : Int) →
    loopT l43_0_3 (((i : Int), b, f, ()), ((cl reps wire down cut, ()), ())) = some (((leadL reps down i (reps.drop i) b f).2, (leadL reps down i (reps.drop i) b f).1, ()), ()) := by
  have hck := chkC_iff.2 V
  have hdn : down.length = reps.length := V.dn
  have hrl : reps.length ≤ 5 := V.n5
  intro k
  induction k with
  | zero =>
    intro i b f h _ _
    rw [List.drop_eq_nil_of_le (by omega)]
    refine loopT_inr ?_
    have : ¬ (i : Int) < (reps.length : Int) := by omega
    simp only [l43_0_3, decide_eq_false this, sumE, sS, leadL]
  | succ k ih =>
    intro i b f h b0 b1
    obtain ⟨e, he, hd⟩ := drop_at (l := reps) (i := i) (by omega)
    obtain ⟨d, hde⟩ := getD_some (l := down) (i := i) (by omega)
    obtain ⟨x, hx⟩ := getD_some (l := reps) (i := b.toNat) (by omega)
    have hlt : (i : Int) < (reps.length : Int) := by omega
    rw [hd]
    unfold leadL
    rw [hde, hx]
    simp only [Option.getD_some]
    have e71 := m15_eq (cl reps wire down cut) hs
    rw [hck] at e71
    have yes_ : loopT l43_0_3 (((i : Int), b, f, ()), ((cl reps wire down cut, ()), ())) = loopT l43_0_3 ((((i + 1 : Nat) : Int), (if decide (e.role = 2) && !d && (!f || decide (e.term > x.term)) then (i : Int) else b), (if decide (e.role = 2) && !d && (!f || decide (e.term > x.term)) then true else f), ()), ((cl reps wire down cut, ()), ())) := by
      refine loopT_inl ?_
      rcases Bool.eq_false_or_eq_true (decide (e.role = 2)) with h1 | h1
      · cases d
        · cases f
          · simp only [l43_0_3, decide_eq_true hlt, sumE, sS, e71, rowAt_G, rowG_nat he, rowG_nat hde, rowG_int b0 hx, beq_decide, h1, w64_nat (show i ≤ 4294967296 by omega), Bool.true_or, if_true]
          · rcases Bool.eq_false_or_eq_true (decide (e.term > x.term)) with h2 | h2
            · simp only [l43_0_3, decide_eq_true hlt, sumE, sS, e71, rowAt_G, rowG_nat he, rowG_nat hde, rowG_int b0 hx, beq_decide, h1, h2, w64_nat (show i ≤ 4294967296 by omega), Bool.false_or, if_true]
            · simp only [l43_0_3, decide_eq_true hlt, sumE, sS, e71, rowAt_G, rowG_nat he, rowG_nat hde, rowG_int b0 hx, beq_decide, h1, h2, w64_nat (show i ≤ 4294967296 by omega), Bool.false_or, Bool.false_eq_true, if_false]
        · simp only [l43_0_3, decide_eq_true hlt, sumE, sS, e71, rowAt_G, rowG_nat he, rowG_nat hde, rowG_int b0 hx, beq_decide, h1, w64_nat (show i ≤ 4294967296 by omega), Bool.false_eq_true, if_false]
      · simp only [l43_0_3, decide_eq_true hlt, sumE, sS, e71, rowAt_G, rowG_nat he, rowG_nat hde, rowG_int b0 hx, beq_decide, h1, w64_nat (show i ≤ 4294967296 by omega), Bool.false_eq_true, if_false]
    rw [yes_]
    split
    · exact ih (i + 1) (i : Int) true (by omega) (by omega) (by omega)
    · exact ih (i + 1) b f (by omega) b0 b1

theorem m43_eq (c : CT) (hs : ShC c) : m43 ((c, ()), ()) = some (((leaderC c).1, (leaderC c).2, ()), ()) := by
  obtain ⟨reps, wire, down, cut, ⟨⟩⟩ := c
  unfold m43 leaderC
  simp only []
  cases hc : chkC (reps, wire, down, cut, PUnit.unit)
  · rw [show loopT l43_0_3 ((0, (0, (false, ()))), (((reps, wire, down, cut, PUnit.unit), ()), ())) = some ((false, 0, ()), ()) from ?_]
    · rfl
    · have e71 := m15_eq (cl reps wire down cut) hs
      rw [show chkC (cl reps wire down cut) = false from hc] at e71
      refine loopT_inr ?_
      by_cases h : (0 : Int) < (reps.length : Int)
      · simp only [l43_0_3, decide_eq_true h, sumE, sS, e71]
      · simp only [l43_0_3, decide_eq_false h, sumE, sS]
  · have V := chkC_iff.1 hc
    have h1 : 1 ≤ reps.length := V.n1
    have := loop43 reps wire down cut hs V reps.length 0 0 false (by omega) (Int.le_refl _) (by omega)
    rw [List.drop_zero] at this
    rw [show loopT l43_0_3 ((0, (0, (false, ()))), (((reps, wire, down, cut, PUnit.unit), ()), ())) = _ from this]
    rfl

end Go.Proofs.YtfbikpbejkgegaaGreat
