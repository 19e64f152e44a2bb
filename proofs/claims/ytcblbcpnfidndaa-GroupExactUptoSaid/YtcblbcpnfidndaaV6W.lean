/- All functions of groups answer as the reference, for any groups, routes, labels and instants. For every input the function returns, does not panic, answers true and leaves its arguments as they were. Condition: what it reads is of bulk at most 1048576 (the statement's own). -/
import Derived.Test.YtcblbcpnfidndaaV6C
import Derived.Test.YtcblbcpnfidndaaRows
import Derived.Test.YtcblbcpnfidndaaPxP
import Derived.WalkKit
import Derived.ProofKit
import Derived.OpenShut
import Derived.JoinedCond
namespace Go.Proofs.Ytcblbcpnfidndaa
open Go Go.ChangeShapes Go.WideShapes Go.ChangeAt Go.RowKit
theorem own : ownKnob Try.prog.godebug = none := by kernel_rfl
theorem laid : laidOutB Try.prog = true := by kernel_rfl
theorem one_le {H : Type} (d : DataW H) : 1 ≤ Rows.uptoBulk d := by
  cases d with
  | lit l => cases l <;> simp [Rows.uptoBulk]
  | nil => simp [Rows.uptoBulk]
  | ptr d => simp [Rows.uptoBulk]
  | slice elems spare => simp [Rows.uptoBulk]
  | agg parts => simp [Rows.uptoBulk]
  | iface t d => simp [Rows.uptoBulk]
  | map entries => simp [Rows.uptoBulk]
  | held h => simp [Rows.uptoBulk]
theorem part_le {H : Type} {d : DataW H} {l : List (DataW H)} (h : d ∈ l) : Rows.uptoBulk d ≤ Rows.uptoBulkAll l := by
  induction l with
  | nil => cases h
  | cons x r ih =>
    simp only [Rows.uptoBulkAll]
    cases List.mem_cons.1 h with
    | inl e => subst e; omega
    | inr e => have := ih e; omega
theorem length_le {H : Type} (l : List (DataW H)) : l.length ≤ Rows.uptoBulkAll l := by
  induction l with
  | nil => simp [Rows.uptoBulkAll]
  | cons x r ih => have := one_le x; simp only [Rows.uptoBulkAll, List.length_cons]; omega
theorem bulk {H : Type} : Abs.Bulk (H := H) Rows.uptoBulk :=
  ⟨fun b => by simp [Rows.uptoBulk], fun e s => by have := length_le e; simp only [Rows.uptoBulk]; omega, fun e s d hd => by have := part_le hd; simp only [Rows.uptoBulk]; omega, fun p d hd => by have := part_le hd; simp only [Rows.uptoBulk]; omega⟩

/-- The arguments' types. -/
def tys6 : List Abs.Ty := [(.row (.int .i64)), Z5, (.row Z13), (.int .i64), (.int .i64)]

set_option maxRecDepth 100000 in
theorem lifted6 (law : ∀ x, Abs.InBs 1048576 tys6 x → m6 (x, ()) = some ((true, ()), ())) (os : Os) (started : os.Started) (H : Type) (enc : TypeId × Value → H) (F : Stop.Interp) :
    ReturnsInHanded {} Try.checked os 6 .any ((Rows.OpenSpec.upto Rows.groupExactSpec).pre6 enc Try.prog Try.f6 Rows.groupExactUptoRow.domain false) (((Rows.OpenSpec.upto Rows.groupExactSpec).at F).post enc Try.prog Try.f6 false true false false) := by
  refine returnsInHanded_of_cond (C := Try.checked) (s := Rows.OpenSpec.upto Rows.groupExactSpec) (k := Rows.uptoSmall) rfl own started (by kernel_rfl) Try.func6
    (OpenSpec.witness (enc := enc) (C := Try.checked) (s := Rows.OpenSpec.upto Rows.groupExactSpec) (k := Rows.uptoSmall) rfl false ⟨#[], #[.slice none 0 0, .agg #[.int .i64 0, .string ByteArray.empty, .slice none 0 0, .int .i64 0, .int .i64 0], .slice none 0 0, .int .i64 0, .int .i64 0], []⟩ 8 (by kernel_rfl) (by kernel_rfl) (by kernel_rfl)
      (x := ([.nil, .agg [.lit (.int .i64 0), .lit (.string []), .nil, .lit (.int .i64 0), .lit (.int .i64 0)], .nil, .lit (.int .i64 0), .lit (.int .i64 0)], [], [])) (by kernel_rfl) rfl (by kernel_rfl)) ?_
  intro W base args ds gs before hval hW _ hk _
  exact Abs.law_contractB (P := Try.prog) bulk (fn := Try.f6) (tys := tys6) (r := 10) (m := m6) Try.func6 (by kernel_rfl) ok6 (by decide +kernel) (by kernel_rfl) laid (by kernel_rfl) (by kernel_rfl) (by kernel_rfl) (by kernel_rfl) Try.underlying4 rfl
    (fun ds h => by match ds, h with | [d0, d1, d2, d3, d4], _ => rfl) law hval (fun y hy => Nat.le_trans (part_le (List.mem_append_left _ hy)) (of_decide_eq_true hk)) hW

theorem over6 (law : ∀ x, Abs.InBs 1048576 tys6 x → m6 (x, ()) = some ((true, ()), ())) : Rows.groupExactUptoRow.holds Try.pinned (Rows.OpenSpec.upto Rows.groupExactSpec) :=
  OpenClaim.holds_of_cond 6 Try.f6 rfl rfl rfl rfl rfl rfl rfl ⟨rfl, rfl, rfl, rfl, rfl⟩ rfl rfl rfl rfl rfl (by kernel_rfl) Try.func6 (by kernel_rfl)
    (of_decide_eq_true (by kernel_rfl)) (by unfold Func.isWrapper; first | (rw [if_pos (by decide +kernel)]; kernel_rfl) | (rw [if_neg (by decide +kernel)]; exact ⟨rfl, rfl⟩))
    (fun os started H enc _ F => lifted6 law os started H enc F)

theorem groupExact_holds : Rows.GroupExactUptoSaid := over6 law6
end Go.Proofs.Ytcblbcpnfidndaa
