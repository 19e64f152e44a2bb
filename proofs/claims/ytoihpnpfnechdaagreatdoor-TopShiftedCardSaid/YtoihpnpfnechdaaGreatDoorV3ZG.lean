/- Lemmas for the statement of the last text of this claim. -/
import Derived.Test.YtoihpnpfnechdaaGreatDoorV3ZF
import Derived.Test.YtoihpnpfnechdaaGreatDoorChecked
import Derived.Test.YtoihpnpfnechdaaGreatDoorRows
import Derived.SevenTiedAt
import Derived.KernelRfl
set_option linter.unusedSimpArgs false
set_option linter.unusedVariables false
namespace Go.Proofs.YtoihpnpfnechdaaGreatDoor
open Go
theorem goes_none (P : Program) (h : P.funcs.any Func.goes = false) (c : OpenClaim) (hs : c.start = .entering) : c.goesBy P = false := by
  have hg : ∀ f, P.goes f = false := by
    intro f
    unfold Program.goes
    rw [h, Bool.and_false, Bool.or_false, List.any_eq_false]
    intro g _
    cases hx : P.funcs[g]? with
    | none => simp
    | some fn =>
      have hm : fn ∈ P.funcs := Array.mem_of_getElem? hx
      have := Array.any_eq_false'.1 h fn hm
      simpa using this
  unfold OpenClaim.goesBy Program.goesAt Program.goesFrom
  rw [hs]
  cases P.funcNamed c.func with
  | none => rfl
  | some f => simp [hg f]
noncomputable abbrev gL : List Func := Tryz.prog.funcs.toList
def ng (f : Func) : Bool := !f.goes
theorem gpart {l : List Func} (a : Nat) (h1 : ((l.drop a).take 55).all ng = true) (h2 : (l.drop (a + 55)).all ng = true) : (l.drop a).all ng = true := by
  rw [← List.take_append_drop 55 (l.drop a), List.all_append, h1, List.drop_drop, h2]; rfl
theorem gp0 : ((gL.drop 0).take 55).all ng = true := by kernel_rfl
theorem gp1 : ((gL.drop 55).take 55).all ng = true := by kernel_rfl
theorem gp2 : ((gL.drop 110).take 55).all ng = true := by kernel_rfl
theorem gp3 : ((gL.drop 165).take 55).all ng = true := by kernel_rfl
theorem gp4 : ((gL.drop 220).take 55).all ng = true := by kernel_rfl
theorem gp5 : ((gL.drop 275).take 55).all ng = true := by kernel_rfl
theorem gp6 : ((gL.drop 330).take 55).all ng = true := by kernel_rfl
theorem gp7 : (gL.drop 385).all ng = true := by kernel_rfl
theorem gpAll : (gL.drop 0).all ng = true := gpart 0 gp0 (gpart 55 gp1 (gpart 110 gp2 (gpart 165 gp3 (gpart 220 gp4 (gpart 275 gp5 (gpart 330 gp6 gp7))))))
theorem any_of_all (P : Program) (h : (P.funcs.toList.drop 0).all ng = true) : P.funcs.any Func.goes = false := by
  rw [List.drop_zero] at h
  rw [← Array.any_toList, List.any_eq_false]
  intro f hf
  have := (List.all_eq_true.1 h) f hf
  simpa [ng] using this
theorem goes3 : false = Rows.topShiftedRow.goesBy Tryz.pinned.checked.prog :=
  (goes_none Tryz.prog (any_of_all Tryz.prog gpAll) Rows.topShiftedRow rfl).symm
end Go.Proofs.YtoihpnpfnechdaaGreatDoor
