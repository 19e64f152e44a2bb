/- TopShifted: a schedule whose layer is always on duty, in zones without transitions, has the same roster when all offsets become greater and its start is given in the new civil time. For every input the function returns, does not panic, answers true and leaves its arguments as they were. Condition: the tables and errors of the library that the row lists hold what it lists (the statement's own). -/
import Derived.Test.YtoihpnpfnechdaaGreatDoorV3AS
import Derived.Test.YtoihpnpfnechdaaGreatDoorCards
import Derived.WalkKit
import Derived.ProofKit
import Derived.OpenShut
namespace Go.Proofs.YtoihpnpfnechdaaGreatDoor
open Go Go.ChangeShapes Go.WideShapes Go.ChangeAt Go.RowKit
set_option maxRecDepth 100000 in
theorem reads (os : Os) {H : Type} (enc : TypeId × Value → H) : ∃ places, DataW.whole enc Tryz.prog ((world0 os).forCall (fun _ _ => 0) ⟨#[], args0, []⟩).memory Tryz.f3.params.toList Rows.topShiftedSpec.vars false args0.toList 8 = some ([.nil, .lit (.int .u8 0)], [], places) :=
  ⟨[], by kernel_rfl⟩

/-- The arguments' types. -/
def tys3 : List Abs.Ty := [(.row (.int .i64)), (.int .u8)]
theorem law3 : ∀ x, Abs.InRs tys3 x → m3 (x, ()) = some ((true, ()), ()) := by
  rintro ⟨t, k, ⟨⟩⟩ h
  exact shifted h.2.1.1 h.2.1.2

set_option maxRecDepth 100000 in
theorem lifted3 (os : Os) (started : os.Started) (H : Type) (enc : TypeId × Value → H) (F : Stop.Interp) :
    ReturnsInHanded {} Tryz.checked os 3 .any ((OpenSpec.ofChange Rows.topShiftedSpec).preRow enc Tryz.prog Tryz.f3 Rows.topShiftedRow.domain false Rows.topShiftedRow.laid) (((OpenSpec.ofChange Rows.topShiftedSpec).at F).post enc Tryz.prog Tryz.f3 false true false false) := by
  obtain ⟨places, hx⟩ := reads os enc
  refine returnsInHanded_of_row (C := Tryz.checked) (s := (OpenSpec.ofChange Rows.topShiftedSpec)) own started (by kernel_rfl) Tryz.func3
    (witness_row_atRef (enc := enc) (C := Tryz.checked) false (world0 os) args0 rfl (by kernel_rfl) (by kernel_rfl) (by kernel_rfl)
      (OpenSpec.preRow_of_cond 8 hx (by kernel_rfl) (fun k hk => by cases hk) (by kernel_rfl) (met os))) ?_
  intro W base args ds gs before hval hW _ hk _ hL hS _
  obtain ⟨hg1, hg2⟩ := glw hL hS
  exact Abs.law_contract (P := Tryz.prog) (fn := Tryz.f3) (tys := tys3) (r := 4) (m := m3) Tryz.func3 (by kernel_rfl) ok3 (by decide +kernel) (by kernel_rfl) laidP (by kernel_rfl) (by kernel_rfl) (by kernel_rfl) (by kernel_rfl) Tryz.underlying4 rfl
    (fun ds h => by match ds, h with | [d0, d1], _ => rfl) law3 hval hW hg1 hg2

theorem over3 : Rows.topShiftedRow.holds Tryz.pinned (OpenSpec.ofChange Rows.topShiftedSpec) :=
  OpenClaim.holds_of_cond 3 Tryz.f3 rfl rfl rfl rfl rfl rfl rfl ⟨rfl, rfl, rfl, rfl, rfl⟩ rfl rfl rfl rfl rfl (by kernel_rfl) Tryz.func3 closedC
    (of_decide_eq_true (by kernel_rfl)) (by unfold Func.isWrapper; first | (rw [if_pos (by decide +kernel)]; kernel_rfl) | (rw [if_neg (by decide +kernel)]; exact ⟨rfl, rfl⟩))
    (fun os started H enc _ F => by rw [OpenClaim.pre_eq_preRow]; exact lifted3 os started H enc F)

theorem plain3 (f : FuncId) (fn : Func) (hf : Tryz.pinned.checked.prog.funcNamed Rows.topShiftedRow.func = some f) (hfn : Tryz.pinned.checked.prog.funcs[f]? = some fn) :
    true = Tryz.pinned.checked.prog.looks [] ∧ ∀ (j : Nat) t, fn.params[j]? = some t → Tryz.pinned.checked.prog.wantsStandIn t = false := by
  obtain rfl : f = 3 := Option.some.inj ((show Tryz.prog.funcNamed Rows.topShiftedRow.func = some 3 by kernel_rfl).symm.trans hf) |>.symm
  obtain rfl : fn = Tryz.f3 := (Option.some.inj (Tryz.func3.symm.trans hfn)).symm
  refine ⟨by kernel_rfl, fun j t ht => ?_⟩
  have hall : (Tryz.f3.params.toList.all fun t => !Tryz.prog.wantsStandIn t) = true := by kernel_rfl
  have hm : t ∈ Tryz.f3.params.toList := Array.mem_toList_iff.2 (Array.mem_of_getElem? ht)
  have := (List.all_eq_true.1 hall) t hm
  exact (show Tryz.prog.wantsStandIn t = false by simpa using this)

theorem wfb3 : Rows.topShiftedRow.wfByText (OpenSpec.ofChange Rows.topShiftedSpec) = true := by kernel_rfl
theorem mainis3 : Tryz.pinned.checked.prog.mainIs = some (true, "b0d3f8e6d0471a97c0c1755eda221d4c6b46469483870f03e1c4fae2aa637ff4".toList) := by kernel_rfl
theorem topShifted_holds : Rows.TopShiftedCardSaid :=
  Claim7.holds_tied_plain_at .later [] [.pinned, .data, .data, .listed, .sentinel, .sentinel, .data, .data, .data] true (true, "b0d3f8e6d0471a97c0c1755eda221d4c6b46469483870f03e1c4fae2aa637ff4") true over3 (fun _ h => by cases h) wfb3 (fun _ h => by cases h) rowT rfl ⟨rfl, rfl⟩ mainis3 rfl plain3 goes3
end Go.Proofs.YtoihpnpfnechdaaGreatDoor
