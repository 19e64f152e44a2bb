/-
  No cell of these rows narrows 'for every input' (looked for: loops, veiled, ifaces, maps, wideKeys, modest, calm, conditions, laid).
  DERIVED. THE GIVEN ROWS OF THIS SEAT. 5 by the template 'for every input the law returns true; each argument reads behind the call as it read before'; 0 by the template 'total and deterministic' (their statements: YtcklpclgiaeopaaTotals.lean).
  GIVEN WITH THE SEED: the statements are not yours to turn. If you find one false, say at which input.
  Laid BY PROGRAM, IN A SANDBOX (cutbox-rows.mjs): the forced cells as the released guide's own fill.sh prints them over the translation 47443d3acf8da97e… (all of the seat's roots in one cut). By AI agents, Wed Nov 11 2026. No macro, syntax, notation, axiom, sorry.
-/
import Derived.Test.YtcklpclgiaeopaaChecked
import GoSem.Claim
import GoSem.ClaimJoined
import GoSem.ClaimMapViews
import Derived.JoinedTies
import Derived.KernelRfl
namespace Go.Proofs.Ytcklpclgiaeopaa
/- THE CELL 'sum', in the pinned program and in every row, IS THE sha256 OF THE DUMP (.gsa) THAT YtcklpclgiaeopaaProg.lean LOADS. Nothing in Lean hashes anything: it is a label: what it is worth is what the hold of that sum in a sandbox is worth. -/
noncomputable def Try.pinned : Pinned := { name := "ytcklpclgiaeopaa", sum := "47443d3acf8da97ed37ce10b82c67f3448b23c738035c33042680e6bcdf9922e", checked := Try.checked }
namespace Rows
def none {H : Type} : Left H := { results := [], args := [] }

/-- 'pagewatchlaw39.ConstraintAdds': WHATEVER THE INPUT: true; the input reads as it did. -/
def constraintAddsSpec : ChangeSpec := { name := "constraintAdds", fn := fun _ => fun
  | [d1, d2] => { results := [.lit (.bool true)], args := [d1, d2] }
  | _ => none }
def constraintAddsRow : OpenClaim := { program := "ytcklpclgiaeopaa", sum := "47443d3acf8da97ed37ce10b82c67f3448b23c738035c33042680e6bcdf9922e", func := "pagewatch/pagewatchlaw39.ConstraintAdds", spec := "constraintAdds", unfollowed := true, recurses := true, apart := false }
def ConstraintAddsSaid : Prop := constraintAddsRow.holds Try.pinned (OpenSpec.ofChange constraintAddsSpec)

/-- ITS FALSE NEIGHBOUR: 'it returns false'. Refute it at one input. -/
def constraintAddsWrong : ChangeSpec := { name := "constraintAdds", fn := fun _ => fun
  | [d1, d2] => { results := [.lit (.bool false)], args := [d1, d2] }
  | _ => none }
def ConstraintAddsWrongFalsely : Prop := constraintAddsRow.holds Try.pinned (OpenSpec.ofChange constraintAddsWrong)

/-- 'pagewatchlaw39.ConstraintTriangle': WHATEVER THE INPUT: true; the input reads as it did. -/
def constraintTriangleSpec : ChangeSpec := { name := "constraintTriangle", fn := fun _ => fun
  | [d] => { results := [.lit (.bool true)], args := [d] }
  | _ => none }
def constraintTriangleRow : OpenClaim := { program := "ytcklpclgiaeopaa", sum := "47443d3acf8da97ed37ce10b82c67f3448b23c738035c33042680e6bcdf9922e", func := "pagewatch/pagewatchlaw39.ConstraintTriangle", spec := "constraintTriangle", unfollowed := true, recurses := true, apart := false }
def ConstraintTriangleSaid : Prop := constraintTriangleRow.holds Try.pinned (OpenSpec.ofChange constraintTriangleSpec)

/-- ITS FALSE NEIGHBOUR: 'it returns false'. Refute it at one input. -/
def constraintTriangleWrong : ChangeSpec := { name := "constraintTriangle", fn := fun _ => fun
  | [d] => { results := [.lit (.bool false)], args := [d] }
  | _ => none }
def ConstraintTriangleWrongFalsely : Prop := constraintTriangleRow.holds Try.pinned (OpenSpec.ofChange constraintTriangleWrong)

/-- 'pagewatchlaw39.ConstraintEarliest': WHATEVER THE INPUT: true; the input reads as it did. -/
def constraintEarliestSpec : ChangeSpec := { name := "constraintEarliest", fn := fun _ => fun
  | [d] => { results := [.lit (.bool true)], args := [d] }
  | _ => none }
def constraintEarliestRow : OpenClaim := { program := "ytcklpclgiaeopaa", sum := "47443d3acf8da97ed37ce10b82c67f3448b23c738035c33042680e6bcdf9922e", func := "pagewatch/pagewatchlaw39.ConstraintEarliest", spec := "constraintEarliest", unfollowed := true, recurses := true, apart := false }
def ConstraintEarliestSaid : Prop := constraintEarliestRow.holds Try.pinned (OpenSpec.ofChange constraintEarliestSpec)

/-- ITS FALSE NEIGHBOUR: 'it returns false'. Refute it at one input. -/
def constraintEarliestWrong : ChangeSpec := { name := "constraintEarliest", fn := fun _ => fun
  | [d] => { results := [.lit (.bool false)], args := [d] }
  | _ => none }
def ConstraintEarliestWrongFalsely : Prop := constraintEarliestRow.holds Try.pinned (OpenSpec.ofChange constraintEarliestWrong)

/-- 'pagewatchlaw39.ConstraintImplied': WHATEVER THE INPUT: true; the input reads as it did. -/
def constraintImpliedSpec : ChangeSpec := { name := "constraintImplied", fn := fun _ => fun
  | [d] => { results := [.lit (.bool true)], args := [d] }
  | _ => none }
def constraintImpliedRow : OpenClaim := { program := "ytcklpclgiaeopaa", sum := "47443d3acf8da97ed37ce10b82c67f3448b23c738035c33042680e6bcdf9922e", func := "pagewatch/pagewatchlaw39.ConstraintImplied", spec := "constraintImplied", unfollowed := true, recurses := true, apart := false }
def ConstraintImpliedSaid : Prop := constraintImpliedRow.holds Try.pinned (OpenSpec.ofChange constraintImpliedSpec)

/-- ITS FALSE NEIGHBOUR: 'it returns false'. Refute it at one input. -/
def constraintImpliedWrong : ChangeSpec := { name := "constraintImplied", fn := fun _ => fun
  | [d] => { results := [.lit (.bool false)], args := [d] }
  | _ => none }
def ConstraintImpliedWrongFalsely : Prop := constraintImpliedRow.holds Try.pinned (OpenSpec.ofChange constraintImpliedWrong)

/-- 'pagewatchlaw39.ConstraintExact': WHATEVER THE INPUT: true; the input reads as it did. -/
def constraintExactSpec : ChangeSpec := { name := "constraintExact", fn := fun _ => fun
  | [d1, d2, d3, d4, d5] => { results := [.lit (.bool true)], args := [d1, d2, d3, d4, d5] }
  | _ => none }
def constraintExactRow : OpenClaim := { program := "ytcklpclgiaeopaa", sum := "47443d3acf8da97ed37ce10b82c67f3448b23c738035c33042680e6bcdf9922e", func := "pagewatch/pagewatchlaw39.ConstraintExact", spec := "constraintExact", unfollowed := true, recurses := true, apart := false }
def ConstraintExactSaid : Prop := constraintExactRow.holds Try.pinned (OpenSpec.ofChange constraintExactSpec)

/-- ITS FALSE NEIGHBOUR: 'it returns false'. Refute it at one input. -/
def constraintExactWrong : ChangeSpec := { name := "constraintExact", fn := fun _ => fun
  | [d1, d2, d3, d4, d5] => { results := [.lit (.bool false)], args := [d1, d2, d3, d4, d5] }
  | _ => none }
def ConstraintExactWrongFalsely : Prop := constraintExactRow.holds Try.pinned (OpenSpec.ofChange constraintExactWrong)

/- THE SECOND FORM. 'bulk': how many values and letters a reading holds, each counted each time it is reached (what is shared counts as often as it is met; a slice's spare places count too). A statement '..UptoSaid' is the law's where the arguments, and the package variables that the reading takes, are together of bulk at most 1048576: NARROWER than '..Said'. Prove '..Said' where nothing that the law and all that it calls make is longer than what came in: it says more and counts as full. Else prove '..UptoSaid'. A law counts once. -/
mutual
def uptoBulk {H : Type} : DataW H → Nat
  | .lit (.string bytes) => bytes.length + 1
  | .lit _ => 1
  | .nil => 1
  | .ptr d => uptoBulk d + 1
  | .slice elems spare => uptoBulkAll elems + uptoBulkAll spare + 1
  | .agg parts => uptoBulkAll parts + 1
  | .iface _ d => uptoBulk d + 1
  | .map entries => uptoBulkEntries entries + 1
  | .held _ => 1
def uptoBulkAll {H : Type} : List (DataW H) → Nat
  | [] => 0
  | d :: r => uptoBulk d + uptoBulkAll r
def uptoBulkEntries {H : Type} : List (Lit × DataW H) → Nat
  | [] => 0
  | x :: r => uptoBulkEntry x + uptoBulkEntries r
def uptoBulkEntry {H : Type} : Lit × DataW H → Nat
  | (.string bytes, d) => bytes.length + uptoBulk d + 1
  | (_, d) => uptoBulk d + 1
 end
def uptoSmall : (H : Type) → List (DataW H) → Bool := fun _ ds => decide (uptoBulkAll ds ≤ 1048576)
def OpenSpec.upto (s : _root_.Go.ChangeSpec) : _root_.Go.OpenSpec := { _root_.Go.OpenSpec.ofChange s with cond := some uptoSmall }

/-- 'pagewatchlaw39.ConstraintAdds', WHERE WHAT IT READS IS OF BULK AT MOST 1048576: true; the input reads as it did. -/
def constraintAddsUptoRow : OpenClaim := { program := "ytcklpclgiaeopaa", sum := "47443d3acf8da97ed37ce10b82c67f3448b23c738035c33042680e6bcdf9922e", func := "pagewatch/pagewatchlaw39.ConstraintAdds", spec := "constraintAdds", unfollowed := true, recurses := true, apart := false, narrowed := true }
def ConstraintAddsUptoSaid : Prop := constraintAddsUptoRow.holds Try.pinned (OpenSpec.upto constraintAddsSpec)

/-- 'pagewatchlaw39.ConstraintTriangle', WHERE WHAT IT READS IS OF BULK AT MOST 1048576: true; the input reads as it did. -/
def constraintTriangleUptoRow : OpenClaim := { program := "ytcklpclgiaeopaa", sum := "47443d3acf8da97ed37ce10b82c67f3448b23c738035c33042680e6bcdf9922e", func := "pagewatch/pagewatchlaw39.ConstraintTriangle", spec := "constraintTriangle", unfollowed := true, recurses := true, apart := false, narrowed := true }
def ConstraintTriangleUptoSaid : Prop := constraintTriangleUptoRow.holds Try.pinned (OpenSpec.upto constraintTriangleSpec)

/-- 'pagewatchlaw39.ConstraintEarliest', WHERE WHAT IT READS IS OF BULK AT MOST 1048576: true; the input reads as it did. -/
def constraintEarliestUptoRow : OpenClaim := { program := "ytcklpclgiaeopaa", sum := "47443d3acf8da97ed37ce10b82c67f3448b23c738035c33042680e6bcdf9922e", func := "pagewatch/pagewatchlaw39.ConstraintEarliest", spec := "constraintEarliest", unfollowed := true, recurses := true, apart := false, narrowed := true }
def ConstraintEarliestUptoSaid : Prop := constraintEarliestUptoRow.holds Try.pinned (OpenSpec.upto constraintEarliestSpec)

/-- 'pagewatchlaw39.ConstraintImplied', WHERE WHAT IT READS IS OF BULK AT MOST 1048576: true; the input reads as it did. -/
def constraintImpliedUptoRow : OpenClaim := { program := "ytcklpclgiaeopaa", sum := "47443d3acf8da97ed37ce10b82c67f3448b23c738035c33042680e6bcdf9922e", func := "pagewatch/pagewatchlaw39.ConstraintImplied", spec := "constraintImplied", unfollowed := true, recurses := true, apart := false, narrowed := true }
def ConstraintImpliedUptoSaid : Prop := constraintImpliedUptoRow.holds Try.pinned (OpenSpec.upto constraintImpliedSpec)

/-- 'pagewatchlaw39.ConstraintExact', WHERE WHAT IT READS IS OF BULK AT MOST 1048576: true; the input reads as it did. -/
def constraintExactUptoRow : OpenClaim := { program := "ytcklpclgiaeopaa", sum := "47443d3acf8da97ed37ce10b82c67f3448b23c738035c33042680e6bcdf9922e", func := "pagewatch/pagewatchlaw39.ConstraintExact", spec := "constraintExact", unfollowed := true, recurses := true, apart := false, narrowed := true }
def ConstraintExactUptoSaid : Prop := constraintExactUptoRow.holds Try.pinned (OpenSpec.upto constraintExactSpec)

end Rows
end Go.Proofs.Ytcklpclgiaeopaa
