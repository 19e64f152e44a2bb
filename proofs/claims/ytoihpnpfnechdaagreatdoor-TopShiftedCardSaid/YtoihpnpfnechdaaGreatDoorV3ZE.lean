/- Lemmas for the statement of the last text of this claim. -/
import Derived.Test.YtoihpnpfnechdaaGreatDoorV3ZD
import Derived.Test.YtoihpnpfnechdaaGreatDoorChecked
import Derived.Test.YtoihpnpfnechdaaGreatDoorRows
import Derived.OpenShut
import Derived.JoinedCond
import Derived.KernelRfl
set_option linter.unusedSimpArgs false
set_option linter.unusedVariables false
namespace Go.Proofs.YtoihpnpfnechdaaGreatDoor
open Go
noncomputable abbrev rowC : OpenClaim := Rows.topShiftedRow
noncomputable abbrev specC : ChangeSpec := (OpenSpec.ofChange Rows.topShiftedSpec).bare
theorem andT {a b : Bool} (h : a = true) (k : b = true) : (a && b) = true := by rw [h, k]; rfl
theorem j0 : (rowC.wf (OpenSpec.ofChange specC)) = true := by kernel_rfl
theorem j1 : (laidOutB Tryz.prog) = true := by kernel_rfl
theorem j2 : (mapsRowed Tryz.prog) = true := by kernel_rfl
theorem j3 : (Tryz.f3.params.all (Tryz.prog.readableRec ·)) = true := by kernel_rfl
theorem j4 : (namedTie Tryz.prog rowC.named specC.vars) = true := by kernel_rfl
theorem j5 : ((rowC.stops == [])) = true := by kernel_rfl
theorem j6 : ((Tryz.prog.stops == [])) = true := by kernel_rfl
theorem j7 : ((rowC.knobs == [])) = true := by kernel_rfl
theorem j8 : ((Tryz.prog.stopKnobs == [])) = true := by kernel_rfl
theorem j9 : ((rowC.inPlace == Tryz.prog.inPlace 3)) = true := by kernel_rfl
theorem j10 : ((rowC.unfollowed == Tryz.prog.unfollowed 3)) = true := by kernel_rfl
theorem j11 : ((rowC.recurses == Tryz.prog.recurses 3)) = true := by kernel_rfl
theorem j12 : ((rowC.named == Tryz.prog.varsNamed 3)) = true := by kernel_rfl
theorem j13 : ((rowC.maps == (Tryz.f3.params.toList ++ specC.plain.varTypes Tryz.prog).any (Tryz.prog.mapsRec ·))) = true := by kernel_rfl
theorem j14 : ((rowC.ifaces == (Tryz.f3.params.toList ++ specC.plain.varTypes Tryz.prog).any (Tryz.prog.ifacesRec ·))) = true := by kernel_rfl
theorem j15 : ((rowC.mapsOut == Tryz.prog.mapsAmong Tryz.f3.resultTypes.toList)) = true := by kernel_rfl
theorem j16 : ((rowC.loops == (Tryz.f3.params.toList ++ specC.plain.varTypes Tryz.prog).any (Tryz.prog.loopsFrom ·))) = true := by kernel_rfl
theorem j17 : ((rowC.wideKeys == (Tryz.f3.params.toList ++ specC.plain.varTypes Tryz.prog ++ Tryz.f3.resultTypes.toList).any (Tryz.prog.wideKeysFrom ·))) = true := by kernel_rfl
theorem j18 : (specC.vars.all (Tryz.prog.varReadable ·)) = true := by kernel_rfl
theorem j19 : (Tryz.f3.resultTypes.all (fun t => Tryz.prog.readableRec t && decide (t < Tryz.prog.types.size))) = true := by kernel_rfl
theorem j20 : ((rowC.ifacesOut == Tryz.f3.resultTypes.toList.any (Tryz.prog.ifacesRec ·))) = true := by kernel_rfl
theorem j21 : ((rowC.loopsOut == Tryz.f3.resultTypes.toList.any (Tryz.prog.loopsFrom ·))) = true := by kernel_rfl
theorem j22 : ((rowC.plainKeys == Tryz.prog.plainKeys)) = true := by kernel_rfl
theorem j23 : (rowC.shortTexts.isNone) = true := by kernel_rfl
theorem j24 : (Tryz.prog.stopsHeard) = true := by kernel_rfl
theorem j25 : (Tryz.prog.mayEnter) = true := by kernel_rfl
theorem j26 : ((rowC.lifted == Tryz.prog.liftsFinal)) = true := by kernel_rfl
theorem j27 : ((Tryz.prog.make == some rowC.make)) = true := by kernel_rfl
theorem j28 : ((rowC.kinds == (if rowC.domain.isEmpty then [] else Tryz.f3.params.toList.map fun t => match Tryz.prog.underlying t with | some (.int k) => some k | _ => none))) = true := by kernel_rfl
theorem j29 : ((rowC.pinned == rowC.pinnedBy)) = true := by kernel_rfl
theorem j30 : ((rowC.veiled == (Tryz.f3.params.toList ++ specC.plain.varTypes Tryz.prog ++ Tryz.f3.resultTypes.toList).any (Tryz.prog.veiledRec ·))) = true := by kernel_rfl
theorem j31 : (rowC.veiledFits Tryz.prog Tryz.f3.params.toList (Tryz.f3.params.toList ++ specC.plain.varTypes Tryz.prog ++ Tryz.f3.resultTypes.toList)) = true := by kernel_rfl
end Go.Proofs.YtoihpnpfnechdaaGreatDoor
