/- LabelMatches (chapter 20): which matchers match any labels, and the texts of matchers, are as the reference says, for any arguments up to the size that the statement names. For every input the function returns, does not panic, answers true and leaves its arguments as they were. Condition: what it reads is of bulk at most 1048576 (the statement's own); the two tables of package unicode/utf8 that the row lists hold what it lists. -/
import Derived.Test.YtcblbcpnfidndaaDoorV3B
import Derived.Test.YtcblbcpnfidndaaDoorCards
import Derived.Test.YtcblbcpnfidndaaDoorTie
import Derived.Test.YtcblbcpnfidndaaDoorPxP
import Derived.WalkKit
import Derived.ProofKit
import Derived.OpenShut
import Derived.Deep.DeepHandedRow
import Derived.Lib.LaidTab
namespace Go.Proofs.YtcblbcpnfidndaaDoor
open Go Go.ChangeShapes Go.WideShapes Go.ChangeAt Go.RowKit
theorem own : ownKnob Tryd.prog.godebug = none := by kernel_rfl
theorem laid : laidOutB Tryd.prog = true := by kernel_rfl
theorem one_le {H : Type} (d : DataW H) : 1 ≤ Rows.uptoBulk d := by
  cases d with
  | lit l => cases l <;> simp [Rows.uptoBulk]
  | nil => simp [Rows.uptoBulk]
  | ptr d => simp [Rows.uptoBulk]
  | slice elems spare => simp [Rows.uptoBulk]
  | agg parts => simp [Rows.uptoBulk]
  | iface t d => simp [Rows.uptoBulk]
  | map entries => simp [Rows.uptoBulk]
  | held h => simp [Rows.uptoBulk]
theorem part_le {H : Type} {d : DataW H} {l : List (DataW H)} (h : d ∈ l) : Rows.uptoBulk d ≤ Rows.uptoBulkAll l := by
  induction l with
  | nil => cases h
  | cons x r ih =>
    simp only [Rows.uptoBulkAll]
    cases List.mem_cons.1 h with
    | inl e => subst e; omega
    | inr e => have := ih e; omega
theorem length_le {H : Type} (l : List (DataW H)) : l.length ≤ Rows.uptoBulkAll l := by
  induction l with
  | nil => simp [Rows.uptoBulkAll]
  | cons x r ih => have := one_le x; simp only [Rows.uptoBulkAll, List.length_cons]; omega
theorem bulk {H : Type} : Abs.Bulk (H := H) Rows.uptoBulk :=
  ⟨fun b => by simp [Rows.uptoBulk], fun e s => by have := length_le e; simp only [Rows.uptoBulk]; omega, fun e s d hd => by have := part_le hd; simp only [Rows.uptoBulk]; omega, fun p d hd => by have := part_le hd; simp only [Rows.uptoBulk]; omega⟩

/-- The two tables are laid. -/
noncomputable def table1 (x : Obj) : Obj := match x with
  | .cells _ t frozen => .cells (([128, 191, 160, 191, 128, 159, 144, 191, 128, 143] ++ List.replicate 22 (0 : Int)).map (fun n => Value.int .u8 n)).toArray t frozen
  | o => o
noncomputable def table2 (x : Obj) : Obj := match x with
  | .cells _ t frozen => .cells (Go.Pinned.utf8FirstZ.map (fun n => Value.int .u8 (n : Nat))).toArray t frozen
  | o => o
/-- A world that holds the two tables. -/
noncomputable def laidWorld (os : Os) : World :=
  { World.holding Tryd.prog os ⟨#[], #[], []⟩ with heap := ((World.holding Tryd.prog os ⟨#[], #[], []⟩).heap.modify 2 table1).modify 1 table2 }
set_option maxRecDepth 100000 in
theorem laid_met (os : Os) : laidMet Tryd.prog Rows.labelMatchesUptoRow.laid ((laidWorld os).forCall (fun _ _ => 0) ⟨#[], #[.slice none 0 0, .agg #[.string ByteArray.empty, .int .i64 0, .string ByteArray.empty], .slice none 0 0, .string ByteArray.empty, .string ByteArray.empty], []⟩).memory :=
  laidMet_of_run' 8 (by kernel_rfl) (by kernel_rfl)
set_option maxRecDepth 100000 in
theorem reads (os : Os) {H : Type} (enc : TypeId × Value → H) : ∃ places, DataW.whole enc Tryd.prog ((laidWorld os).forCall (fun _ _ => 0) ⟨#[], #[.slice none 0 0, .agg #[.string ByteArray.empty, .int .i64 0, .string ByteArray.empty], .slice none 0 0, .string ByteArray.empty, .string ByteArray.empty], []⟩).memory Tryd.f3.params.toList Rows.labelMatchesSpec.vars false (#[.slice none 0 0, .agg #[.string ByteArray.empty, .int .i64 0, .string ByteArray.empty], .slice none 0 0, .string ByteArray.empty, .string ByteArray.empty] : Array Value).toList 8 = some ([.nil, .agg [.lit (.string []), .lit (.int .i64 0), .lit (.string [])], .nil, .lit (.string []), .lit (.string [])], [], places) :=
  ⟨[], by kernel_rfl⟩

/-- The arguments' types. -/
def tys3 : List Abs.Ty := [(.row (.int .i64)), Z4, (.row Z7), .str, .str]

set_option maxRecDepth 100000 in
theorem lifted3 (law : ∀ x, Abs.InBs 1048576 tys3 x → m3 (x, ()) = some ((true, ()), ())) (os : Os) (started : os.Started) (H : Type) (enc : TypeId × Value → H) (F : Stop.Interp) :
    ReturnsInHanded {} Tryd.checked os 3 .any ((Rows.OpenSpec.upto Rows.labelMatchesSpec).preRow enc Tryd.prog Tryd.f3 Rows.labelMatchesUptoRow.domain false Rows.labelMatchesUptoRow.laid) (((Rows.OpenSpec.upto Rows.labelMatchesSpec).at F).post enc Tryd.prog Tryd.f3 false true false false) := by
  obtain ⟨places, hx⟩ := reads os enc
  refine returnsInHanded_of_row (C := Tryd.checked) (s := (Rows.OpenSpec.upto Rows.labelMatchesSpec)) own started (by kernel_rfl) Tryd.func3
    (witness_row_at (enc := enc) (C := Tryd.checked) false (laidWorld os) #[.slice none 0 0, .agg #[.string ByteArray.empty, .int .i64 0, .string ByteArray.empty], .slice none 0 0, .string ByteArray.empty, .string ByteArray.empty] rfl (by kernel_rfl) (by kernel_rfl) (by kernel_rfl)
      (OpenSpec.preRow_of_cond 8 hx (by kernel_rfl) (fun k hk => by cases hk; kernel_rfl) (by kernel_rfl) (laid_met os))) ?_
  intro W base args ds gs before hval hW _ hk _ hL _ _
  exact Abs.law_contractB (P := Tryd.prog) bulk (fn := Tryd.f3) (tys := tys3) (r := 10) (m := m3) Tryd.func3 (by kernel_rfl) ok3 (by decide +kernel) (by kernel_rfl) laid (by kernel_rfl) (by kernel_rfl) (by kernel_rfl) (by kernel_rfl) Tryd.underlying4 rfl
    (fun ds h => by match ds, h with | [d0, d1, d2, d3, d4], _ => rfl) law hval (fun y hy => Nat.le_trans (part_le (List.mem_append_left _ hy)) (of_decide_eq_true (hk _ rfl))) hW

theorem over3 (law : ∀ x, Abs.InBs 1048576 tys3 x → m3 (x, ()) = some ((true, ()), ())) : Rows.labelMatchesUptoRow.holds Tryd.pinned (Rows.OpenSpec.upto Rows.labelMatchesSpec) :=
  OpenClaim.holds_of_cond 3 Tryd.f3 rfl rfl rfl rfl rfl rfl rfl ⟨rfl, rfl, rfl, rfl, rfl⟩ rfl rfl rfl rfl rfl (by kernel_rfl) Tryd.func3 (by kernel_rfl)
    (of_decide_eq_true (by kernel_rfl)) (by unfold Func.isWrapper; first | (rw [if_pos (by decide +kernel)]; kernel_rfl) | (rw [if_neg (by decide +kernel)]; exact ⟨rfl, rfl⟩))
    (fun os started H enc _ F => by rw [OpenClaim.pre_eq_preRow]; exact lifted3 law os started H enc F)

theorem plain3 (f : FuncId) (fn : Func) (hf : Tryd.pinned.checked.prog.funcNamed Rows.labelMatchesUptoRow.func = some f) (hfn : Tryd.pinned.checked.prog.funcs[f]? = some fn) :
    false = Tryd.pinned.checked.prog.looks [] ∧ ∀ (j : Nat) t, fn.params[j]? = some t → Tryd.pinned.checked.prog.wantsStandIn t = false := by
  obtain rfl : f = 3 := Option.some.inj ((show Tryd.prog.funcNamed Rows.labelMatchesUptoRow.func = some 3 by kernel_rfl).symm.trans hf) |>.symm
  obtain rfl : fn = Tryd.f3 := (Option.some.inj (Tryd.func3.symm.trans hfn)).symm
  refine ⟨by kernel_rfl, fun j t ht => ?_⟩
  have hall : (Tryd.f3.params.toList.all fun t => !Tryd.prog.wantsStandIn t) = true := by kernel_rfl
  have hm : t ∈ Tryd.f3.params.toList := Array.mem_toList_iff.2 (Array.mem_of_getElem? ht)
  have := (List.all_eq_true.1 hall) t hm
  exact (show Tryd.prog.wantsStandIn t = false by simpa using this)

theorem labelMatches_holds : Rows.LabelMatchesUptoCardSaid :=
  Claim7.holds_tied_plain_at .later [] _ _ _ _ (over3 law3) (fun _ h => by cases h) (by kernel_rfl) (fun _ h => by cases h) labelMatchesUpto_row_tie rfl ⟨rfl, rfl⟩ (by kernel_rfl) rfl plain3 (by kernel_rfl)
end Go.Proofs.YtcblbcpnfidndaaDoor
