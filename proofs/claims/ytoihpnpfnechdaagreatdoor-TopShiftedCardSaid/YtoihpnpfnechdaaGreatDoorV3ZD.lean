/- Lemmas for the statement of the last text of this claim. -/
import Derived.Test.YtoihpnpfnechdaaGreatDoorV3ZC
import Derived.Test.YtoihpnpfnechdaaGreatDoorChecked
import Derived.Test.YtoihpnpfnechdaaGreatDoorRows
import Derived.LaidMore
import Derived.WalkKit
import Derived.ProofKit
import Derived.OpenShut
import Derived.Lib.LaidTab
import Derived.Deep.DeepHandedRow
import Derived.Deep.DeepWitnessRowRef
set_option linter.unusedSimpArgs false
set_option linter.unusedVariables false
namespace Go.Proofs.YtoihpnpfnechdaaGreatDoor
open Go Go.ChangeShapes Go.WideShapes Go.ChangeAt Go.RowKit
theorem own : ownKnob Tryz.prog.godebug = none := by kernel_rfl
theorem laidP : laidOutB Tryz.prog = true := by kernel_rfl
/-- The arguments of the witness. -/
def args0 : Array Value := #[.slice none 0 0, .int .u8 0]
def fill (cs : Array Value) (x : Obj) : Obj := match x with
  | .cells _ t z => .cells cs t z
  | o => o
def more0 : Array Obj := #[.cells #[.int .u16 9, .int .u16 13, .int .u16 1, .int .u16 32, .int .u16 133, .int .u16 101, .int .u16 160, .int .u16 5760, .int .u16 5600, .int .u16 8192, .int .u16 8202, .int .u16 1, .int .u16 8232, .int .u16 8233, .int .u16 1, .int .u16 8239, .int .u16 8287, .int .u16 48, .int .u16 12288, .int .u16 12288, .int .u16 1] 434, .cells #[.slice (some ⟨16, 0, none⟩) 7 7, .slice none 0 0, .int .i64 2] 431, .cells #[.string (ByteArray.mk #[105, 110, 118, 97, 108, 105, 100, 32, 115, 121, 110, 116, 97, 120])] 480, .cells #[.string (ByteArray.mk #[118, 97, 108, 117, 101, 32, 111, 117, 116, 32, 111, 102, 32, 114, 97, 110, 103, 101])] 480]
noncomputable def heap0 (h : Array Obj) : Array Obj :=
  ((((((((h.modify 0 (fill ((List.range 256).map fun o => Value.int .u8 (if o = 32 ∨ (9 ≤ o ∧ o ≤ 13) then 1 else 0)).toArray)).modify 1 (fill #[.pointer (some ⟨17, 0, none⟩)])).modify 2 (fill ((List.range 20).map fun o => Value.int .u64 ((10 ^ o : Nat) : Int)).toArray)).modify 4
    (fill (Go.Pinned.utf8FirstZ.map (fun n => Value.int .u8 (n : Nat))).toArray)).modify 5 (fill (([128, 191, 160, 191, 128, 159, 144, 191, 128, 143] ++ List.replicate 22 (0 : Int)).map (fun n => Value.int .u8 n)).toArray)).modify 6
    (fill #[.int .u8 0, .int .u8 1, .int .u8 28, .int .u8 2, .int .u8 29, .int .u8 14, .int .u8 24, .int .u8 3, .int .u8 30, .int .u8 22, .int .u8 20, .int .u8 15, .int .u8 25, .int .u8 17, .int .u8 4, .int .u8 8, .int .u8 31, .int .u8 27, .int .u8 13, .int .u8 23, .int .u8 21, .int .u8 19, .int .u8 16, .int .u8 7, .int .u8 26, .int .u8 12, .int .u8 18, .int .u8 6, .int .u8 11, .int .u8 5, .int .u8 10, .int .u8 9])).modify 7 (fill #[.int .u8 0, .int .u8 1, .int .u8 56, .int .u8 2, .int .u8 57, .int .u8 49, .int .u8 28, .int .u8 3, .int .u8 61, .int .u8 58, .int .u8 42, .int .u8 50, .int .u8 38, .int .u8 29, .int .u8 17, .int .u8 4, .int .u8 62, .int .u8 47, .int .u8 59, .int .u8 36, .int .u8 45, .int .u8 43, .int .u8 51, .int .u8 22, .int .u8 53, .int .u8 39, .int .u8 33, .int .u8 30, .int .u8 24, .int .u8 18, .int .u8 12, .int .u8 5, .int .u8 63, .int .u8 55, .int .u8 48, .int .u8 27, .int .u8 60, .int .u8 41, .int .u8 37, .int .u8 16, .int .u8 46, .int .u8 35, .int .u8 44, .int .u8 21, .int .u8 52, .int .u8 32, .int .u8 23, .int .u8 11, .int .u8 54, .int .u8 26, .int .u8 40, .int .u8 15, .int .u8 34, .int .u8 20, .int .u8 31, .int .u8 10, .int .u8 25, .int .u8 14, .int .u8 19, .int .u8 9, .int .u8 13, .int .u8 8, .int .u8 7, .int .u8 6])).modify 8 (fill #[.iface 478 (.pointer (some ⟨18, 0, none⟩))])).modify 9 (fill #[.iface 478 (.pointer (some ⟨19, 0, none⟩))]) ++ more0
noncomputable def world0 (os : Os) : World := { World.holding Tryz.prog os ⟨#[], #[], []⟩ with heap := heap0 (World.holding Tryz.prog os ⟨#[], #[], []⟩).heap }
set_option maxRecDepth 100000 in
theorem met1 (os : Os) : (DataW.laidRun Tryz.prog ((world0 os).forCall (fun _ _ => 0) ⟨#[], args0, []⟩).memory 8 (Rows.topShiftedRow.laid.map (·.1))).map (·.1) = some Rows.topShiftedRow.laid := by kernel_rfl

/-- Numbers each once: by the bits of a number. -/
def freshB : Nat → List Nat → Bool
  | _, [] => true
  | s, c :: r => !s.testBit c && freshB (s ||| (1 <<< c)) r
theorem fresh_nodup : ∀ (l : List Nat) (s : Nat), freshB s l = true → l.Nodup ∧ ∀ c ∈ l, s.testBit c = false
  | [], _, _ => ⟨List.nodup_nil, fun c h => by cases h⟩
  | c :: r, s, h => by
    simp only [freshB, Bool.and_eq_true, Bool.not_eq_true'] at h
    obtain ⟨h1, h2⟩ := fresh_nodup r _ h.2
    have hx : ∀ x ∈ r, s.testBit x = false ∧ x ≠ c := fun x hx => by
      have h3 := h2 x hx
      rw [Nat.testBit_or, Bool.or_eq_false_iff] at h3
      refine ⟨h3.1, fun e => ?_⟩
      subst e
      have := h3.2
      rw [Nat.testBit_shiftLeft] at this
      simp at this
    refine ⟨List.nodup_cons.2 ⟨fun hc => (hx c hc).2 rfl, h1⟩, fun x hxm => ?_⟩
    rcases List.mem_cons.1 hxm with rfl | hxm
    · exact h.1
    · exact (hx x hxm).1
def codeP : MemPlace → Nat
  | .cell b off => b * 1024 + off
  | _ => 0
theorem nodup_places {ps : List MemPlace} (h : freshB 0 (ps.map codeP) = true) : ps.Nodup :=
  List.Pairwise.of_map codeP (fun _ _ h e => h (congrArg codeP e)) (fresh_nodup _ _ h).1
set_option maxRecDepth 100000 in
theorem met2 (os : Os) : (DataW.laidRun Tryz.prog ((world0 os).forCall (fun _ _ => 0) ⟨#[], args0, []⟩).memory 8 (Rows.topShiftedRow.laid.map (·.1))).map (fun x => freshB 0 (x.2.map codeP) && laidRowsB Tryz.prog ((world0 os).forCall (fun _ _ => 0) ⟨#[], args0, []⟩).memory x.2) = some true := by kernel_rfl
theorem met (os : Os) : laidMet Tryz.prog Rows.topShiftedRow.laid ((world0 os).forCall (fun _ _ => 0) ⟨#[], args0, []⟩).memory := by
  have h := met1 os
  have hr := met2 os
  cases hx : DataW.laidRun Tryz.prog ((world0 os).forCall (fun _ _ => 0) ⟨#[], args0, []⟩).memory 8 (Rows.topShiftedRow.laid.map (·.1)) with
  | none => rw [hx] at h; cases h
  | some x =>
    obtain ⟨l, ps⟩ := x
    rw [hx] at h hr
    simp only [Option.map_some, Option.some.injEq] at h hr
    subst h
    obtain ⟨h1, h2⟩ := Bool.and_eq_true_iff.1 hr
    exact laidMet_of_run 8 hx (decide_eq_true (nodup_places h1)) h2
end Go.Proofs.YtoihpnpfnechdaaGreatDoor
