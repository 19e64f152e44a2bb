/-
  No cell of these rows narrows 'for every input' (looked for: loops, veiled, ifaces, maps, wideKeys, modest, calm, conditions, laid).
  DERIVED. THE GIVEN ROWS OF THIS SEAT. 3 by the template 'for every input the law returns true; each argument reads behind the call as it read before'; 0 by the template 'total and deterministic' (their statements: YtfbikpbejkgegaaGreatTotals.lean).
  GIVEN WITH THE SEED: the statements are not yours to turn. If you find one false, say at which input.
  Laid BY PROGRAM, IN A SANDBOX (cutbox-rows.mjs): the forced cells as the released guide's own fill.sh prints them over the translation 5322bfaff544905d… (all of the seat's roots in one cut). By AI agents, Wed Nov 11 2026. No macro, syntax, notation, axiom, sorry.
-/
import Derived.Test.YtfbikpbejkgegaaGreatChecked
import GoSem.Claim
import GoSem.ClaimJoined
import GoSem.ClaimMapViews
import Derived.JoinedTies
import Derived.KernelRfl
namespace Go.Proofs.YtfbikpbejkgegaaGreat
/- THE CELL 'sum', in the pinned program and in every row, IS THE sha256 OF THE DUMP (.gsa) THAT YtfbikpbejkgegaaGreatProg.lean LOADS. Nothing in Lean hashes anything: it is a label: what it is worth is what the hold of that sum in a sandbox is worth. -/
noncomputable def Tryz.pinned : Pinned := { name := "ytfbikpbejkgegaagreat", sum := "5322bfaff544905deb8a0d76870b15607045a23e10d06f871250e9acf08050a4", checked := Tryz.checked }
namespace Rows
def none {H : Type} : Left H := { results := [], args := [] }

/-- 'pagewatchlaw34.RegionSettles': WHATEVER THE INPUT: true; the input reads as it did. -/
def regionSettlesSpec : ChangeSpec := { name := "regionSettles", fn := fun _ => fun
  | [d] => { results := [.lit (.bool true)], args := [d] }
  | _ => none }
def regionSettlesRow : OpenClaim := { program := "ytfbikpbejkgegaagreat", sum := "5322bfaff544905deb8a0d76870b15607045a23e10d06f871250e9acf08050a4", func := "pagewatch/pagewatchlaw34.RegionSettles", spec := "regionSettles", unfollowed := true, recurses := true, apart := false }
def RegionSettlesSaid : Prop := regionSettlesRow.holds Tryz.pinned (OpenSpec.ofChange regionSettlesSpec)

/-- ITS FALSE NEIGHBOUR: 'it returns false'. Refute it at one input. -/
def regionSettlesWrong : ChangeSpec := { name := "regionSettles", fn := fun _ => fun
  | [d] => { results := [.lit (.bool false)], args := [d] }
  | _ => none }
def RegionSettlesWrongFalsely : Prop := regionSettlesRow.holds Tryz.pinned (OpenSpec.ofChange regionSettlesWrong)

/-- 'pagewatchlaw34.RegionSilent': WHATEVER THE INPUT: true; the input reads as it did. -/
def regionSilentSpec : ChangeSpec := { name := "regionSilent", fn := fun _ => fun
  | [d] => { results := [.lit (.bool true)], args := [d] }
  | _ => none }
def regionSilentRow : OpenClaim := { program := "ytfbikpbejkgegaagreat", sum := "5322bfaff544905deb8a0d76870b15607045a23e10d06f871250e9acf08050a4", func := "pagewatch/pagewatchlaw34.RegionSilent", spec := "regionSilent", unfollowed := true, recurses := true, apart := false }
def RegionSilentSaid : Prop := regionSilentRow.holds Tryz.pinned (OpenSpec.ofChange regionSilentSpec)

/-- ITS FALSE NEIGHBOUR: 'it returns false'. Refute it at one input. -/
def regionSilentWrong : ChangeSpec := { name := "regionSilent", fn := fun _ => fun
  | [d] => { results := [.lit (.bool false)], args := [d] }
  | _ => none }
def RegionSilentWrongFalsely : Prop := regionSilentRow.holds Tryz.pinned (OpenSpec.ofChange regionSilentWrong)

/-- 'pagewatchlaw34.RegionSteps': WHATEVER THE INPUT: true; the input reads as it did. -/
def regionStepsSpec : ChangeSpec := { name := "regionSteps", fn := fun _ => fun
  | [d1, d2, d3, d4, d5] => { results := [.lit (.bool true)], args := [d1, d2, d3, d4, d5] }
  | _ => none }
def regionStepsRow : OpenClaim := { program := "ytfbikpbejkgegaagreat", sum := "5322bfaff544905deb8a0d76870b15607045a23e10d06f871250e9acf08050a4", func := "pagewatch/pagewatchlaw34.RegionSteps", spec := "regionSteps", unfollowed := true, recurses := true, apart := false }
def RegionStepsSaid : Prop := regionStepsRow.holds Tryz.pinned (OpenSpec.ofChange regionStepsSpec)

/-- ITS FALSE NEIGHBOUR: 'it returns false'. Refute it at one input. -/
def regionStepsWrong : ChangeSpec := { name := "regionSteps", fn := fun _ => fun
  | [d1, d2, d3, d4, d5] => { results := [.lit (.bool false)], args := [d1, d2, d3, d4, d5] }
  | _ => none }
def RegionStepsWrongFalsely : Prop := regionStepsRow.holds Tryz.pinned (OpenSpec.ofChange regionStepsWrong)

/- THE SECOND FORM. 'bulk': how many values and letters a reading holds, each counted each time it is reached (what is shared counts as often as it is met; a slice's spare places count too). A statement '..UptoSaid' is the law's where the arguments, and the package variables that the reading takes, are together of bulk at most 1048576: NARROWER than '..Said'. Prove '..Said' where nothing that the law and all that it calls make is longer than what came in: it says more and counts as full. Else prove '..UptoSaid'. A law counts once. -/
mutual
def uptoBulk {H : Type} : DataW H → Nat
  | .lit (.string bytes) => bytes.length + 1
  | .lit _ => 1
  | .nil => 1
  | .ptr d => uptoBulk d + 1
  | .slice elems spare => uptoBulkAll elems + uptoBulkAll spare + 1
  | .agg parts => uptoBulkAll parts + 1
  | .iface _ d => uptoBulk d + 1
  | .map entries => uptoBulkEntries entries + 1
  | .held _ => 1
def uptoBulkAll {H : Type} : List (DataW H) → Nat
  | [] => 0
  | d :: r => uptoBulk d + uptoBulkAll r
def uptoBulkEntries {H : Type} : List (Lit × DataW H) → Nat
  | [] => 0
  | x :: r => uptoBulkEntry x + uptoBulkEntries r
def uptoBulkEntry {H : Type} : Lit × DataW H → Nat
  | (.string bytes, d) => bytes.length + uptoBulk d + 1
  | (_, d) => uptoBulk d + 1
 end
def uptoSmall : (H : Type) → List (DataW H) → Bool := fun _ ds => decide (uptoBulkAll ds ≤ 1048576)
def OpenSpec.upto (s : _root_.Go.ChangeSpec) : _root_.Go.OpenSpec := { _root_.Go.OpenSpec.ofChange s with cond := some uptoSmall }

/-- 'pagewatchlaw34.RegionSettles', WHERE WHAT IT READS IS OF BULK AT MOST 1048576: true; the input reads as it did. -/
def regionSettlesUptoRow : OpenClaim := { program := "ytfbikpbejkgegaagreat", sum := "5322bfaff544905deb8a0d76870b15607045a23e10d06f871250e9acf08050a4", func := "pagewatch/pagewatchlaw34.RegionSettles", spec := "regionSettles", unfollowed := true, recurses := true, apart := false, narrowed := true }
def RegionSettlesUptoSaid : Prop := regionSettlesUptoRow.holds Tryz.pinned (OpenSpec.upto regionSettlesSpec)

/-- 'pagewatchlaw34.RegionSilent', WHERE WHAT IT READS IS OF BULK AT MOST 1048576: true; the input reads as it did. -/
def regionSilentUptoRow : OpenClaim := { program := "ytfbikpbejkgegaagreat", sum := "5322bfaff544905deb8a0d76870b15607045a23e10d06f871250e9acf08050a4", func := "pagewatch/pagewatchlaw34.RegionSilent", spec := "regionSilent", unfollowed := true, recurses := true, apart := false, narrowed := true }
def RegionSilentUptoSaid : Prop := regionSilentUptoRow.holds Tryz.pinned (OpenSpec.upto regionSilentSpec)

/-- 'pagewatchlaw34.RegionSteps', WHERE WHAT IT READS IS OF BULK AT MOST 1048576: true; the input reads as it did. -/
def regionStepsUptoRow : OpenClaim := { program := "ytfbikpbejkgegaagreat", sum := "5322bfaff544905deb8a0d76870b15607045a23e10d06f871250e9acf08050a4", func := "pagewatch/pagewatchlaw34.RegionSteps", spec := "regionSteps", unfollowed := true, recurses := true, apart := false, narrowed := true }
def RegionStepsUptoSaid : Prop := regionStepsUptoRow.holds Tryz.pinned (OpenSpec.upto regionStepsSpec)

end Rows
end Go.Proofs.YtfbikpbejkgegaaGreat
