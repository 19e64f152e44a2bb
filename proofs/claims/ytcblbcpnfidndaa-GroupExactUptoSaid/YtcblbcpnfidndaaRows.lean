/-
  No cell of these rows narrows 'for every input' (looked for: loops, veiled, ifaces, maps, wideKeys, modest, calm, conditions, laid).
  DERIVED. THE GIVEN ROWS OF THIS SEAT. 5 by the template 'for every input the law returns true; each argument reads behind the call as it read before'; 0 by the template 'total and deterministic' (their statements: YtcblbcpnfidndaaTotals.lean).
  GIVEN WITH THE SEED: the statements are not yours to turn. If you find one false, say at which input.
  Laid BY PROGRAM, IN A SANDBOX (cutbox-rows.mjs): the forced cells as the released guide's own fill.sh prints them over the translation ef0baee267005da3… (all of the seat's roots in one cut). By AI agents, Wed Nov 11 2026. No macro, syntax, notation, axiom, sorry.
-/
import Derived.Test.YtcblbcpnfidndaaChecked
import GoSem.Claim
import GoSem.ClaimJoined
import GoSem.ClaimMapViews
import Derived.JoinedTies
import Derived.KernelRfl
namespace Go.Proofs.Ytcblbcpnfidndaa
/- THE CELL 'sum', in the pinned program and in every row, IS THE sha256 OF THE DUMP (.gsa) THAT YtcblbcpnfidndaaProg.lean LOADS. Nothing in Lean hashes anything: it is a label: what it is worth is what the hold of that sum in a sandbox is worth. -/
noncomputable def Try.pinned : Pinned := { name := "ytcblbcpnfidndaa", sum := "ef0baee267005da3486427308316155a440e4d6cde322bc80c2a9c1d12642b50", checked := Try.checked }
namespace Rows
def none {H : Type} : Left H := { results := [], args := [] }

/-- 'pagewatchlaw23.GroupWaits': WHATEVER THE INPUT: true; the input reads as it did. -/
def groupWaitsSpec : ChangeSpec := { name := "groupWaits", fn := fun _ => fun
  | [d1, d2] => { results := [.lit (.bool true)], args := [d1, d2] }
  | _ => none }
def groupWaitsRow : OpenClaim := { program := "ytcblbcpnfidndaa", sum := "ef0baee267005da3486427308316155a440e4d6cde322bc80c2a9c1d12642b50", func := "pagewatch/pagewatchlaw23.GroupWaits", spec := "groupWaits", inPlace := ["internal/abi.NoEscape", "internal/bytealg.MakeNoZero", "slices.overlaps[pagewatch/api.Member]"], unfollowed := true, recurses := true, apart := false }
def GroupWaitsSaid : Prop := groupWaitsRow.holds Try.pinned (OpenSpec.ofChange groupWaitsSpec)

/-- ITS FALSE NEIGHBOUR: 'it returns false'. Refute it at one input. -/
def groupWaitsWrong : ChangeSpec := { name := "groupWaits", fn := fun _ => fun
  | [d1, d2] => { results := [.lit (.bool false)], args := [d1, d2] }
  | _ => none }
def GroupWaitsWrongFalsely : Prop := groupWaitsRow.holds Try.pinned (OpenSpec.ofChange groupWaitsWrong)

/-- 'pagewatchlaw23.GroupInterval': WHATEVER THE INPUT: true; the input reads as it did. -/
def groupIntervalSpec : ChangeSpec := { name := "groupInterval", fn := fun _ => fun
  | [d] => { results := [.lit (.bool true)], args := [d] }
  | _ => none }
def groupIntervalRow : OpenClaim := { program := "ytcblbcpnfidndaa", sum := "ef0baee267005da3486427308316155a440e4d6cde322bc80c2a9c1d12642b50", func := "pagewatch/pagewatchlaw23.GroupInterval", spec := "groupInterval", inPlace := ["internal/abi.NoEscape", "internal/bytealg.MakeNoZero", "slices.overlaps[pagewatch/api.Member]"], unfollowed := true, recurses := true, apart := false }
def GroupIntervalSaid : Prop := groupIntervalRow.holds Try.pinned (OpenSpec.ofChange groupIntervalSpec)

/-- ITS FALSE NEIGHBOUR: 'it returns false'. Refute it at one input. -/
def groupIntervalWrong : ChangeSpec := { name := "groupInterval", fn := fun _ => fun
  | [d] => { results := [.lit (.bool false)], args := [d] }
  | _ => none }
def GroupIntervalWrongFalsely : Prop := groupIntervalRow.holds Try.pinned (OpenSpec.ofChange groupIntervalWrong)

/-- 'pagewatchlaw23.GroupMuted': WHATEVER THE INPUT: true; the input reads as it did. -/
def groupMutedSpec : ChangeSpec := { name := "groupMuted", fn := fun _ => fun
  | [d] => { results := [.lit (.bool true)], args := [d] }
  | _ => none }
def groupMutedRow : OpenClaim := { program := "ytcblbcpnfidndaa", sum := "ef0baee267005da3486427308316155a440e4d6cde322bc80c2a9c1d12642b50", func := "pagewatch/pagewatchlaw23.GroupMuted", spec := "groupMuted", inPlace := ["internal/abi.NoEscape", "internal/bytealg.MakeNoZero", "slices.overlaps[pagewatch/api.Member]"], unfollowed := true, recurses := true, apart := false }
def GroupMutedSaid : Prop := groupMutedRow.holds Try.pinned (OpenSpec.ofChange groupMutedSpec)

/-- ITS FALSE NEIGHBOUR: 'it returns false'. Refute it at one input. -/
def groupMutedWrong : ChangeSpec := { name := "groupMuted", fn := fun _ => fun
  | [d] => { results := [.lit (.bool false)], args := [d] }
  | _ => none }
def GroupMutedWrongFalsely : Prop := groupMutedRow.holds Try.pinned (OpenSpec.ofChange groupMutedWrong)

/-- 'pagewatchlaw23.GroupExact': WHATEVER THE INPUT: true; the input reads as it did. -/
def groupExactSpec : ChangeSpec := { name := "groupExact", fn := fun _ => fun
  | [d1, d2, d3, d4, d5] => { results := [.lit (.bool true)], args := [d1, d2, d3, d4, d5] }
  | _ => none }
def groupExactRow : OpenClaim := { program := "ytcblbcpnfidndaa", sum := "ef0baee267005da3486427308316155a440e4d6cde322bc80c2a9c1d12642b50", func := "pagewatch/pagewatchlaw23.GroupExact", spec := "groupExact", inPlace := ["internal/abi.NoEscape", "internal/bytealg.MakeNoZero", "slices.overlaps[pagewatch/api.Member]"], unfollowed := true, recurses := true, apart := false }
def GroupExactSaid : Prop := groupExactRow.holds Try.pinned (OpenSpec.ofChange groupExactSpec)

/-- ITS FALSE NEIGHBOUR: 'it returns false'. Refute it at one input. -/
def groupExactWrong : ChangeSpec := { name := "groupExact", fn := fun _ => fun
  | [d1, d2, d3, d4, d5] => { results := [.lit (.bool false)], args := [d1, d2, d3, d4, d5] }
  | _ => none }
def GroupExactWrongFalsely : Prop := groupExactRow.holds Try.pinned (OpenSpec.ofChange groupExactWrong)

/-- 'pagewatchlaw23.GroupKeeps': WHATEVER THE INPUT: true; the input reads as it did. -/
def groupKeepsSpec : ChangeSpec := { name := "groupKeeps", fn := fun _ => fun
  | [d] => { results := [.lit (.bool true)], args := [d] }
  | _ => none }
def groupKeepsRow : OpenClaim := { program := "ytcblbcpnfidndaa", sum := "ef0baee267005da3486427308316155a440e4d6cde322bc80c2a9c1d12642b50", func := "pagewatch/pagewatchlaw23.GroupKeeps", spec := "groupKeeps", inPlace := ["internal/abi.NoEscape", "internal/bytealg.MakeNoZero", "slices.overlaps[pagewatch/api.Member]"], unfollowed := true, recurses := true, apart := false }
def GroupKeepsSaid : Prop := groupKeepsRow.holds Try.pinned (OpenSpec.ofChange groupKeepsSpec)

/-- ITS FALSE NEIGHBOUR: 'it returns false'. Refute it at one input. -/
def groupKeepsWrong : ChangeSpec := { name := "groupKeeps", fn := fun _ => fun
  | [d] => { results := [.lit (.bool false)], args := [d] }
  | _ => none }
def GroupKeepsWrongFalsely : Prop := groupKeepsRow.holds Try.pinned (OpenSpec.ofChange groupKeepsWrong)

/- THE SECOND FORM. 'bulk': how many values and letters a reading holds, each counted each time it is reached (what is shared counts as often as it is met; a slice's spare places count too). A statement '..UptoSaid' is the law's where the arguments, and the package variables that the reading takes, are together of bulk at most 1048576: NARROWER than '..Said'. Prove '..Said' where nothing that the law and all that it calls make is longer than what came in: it says more and counts as full. Else prove '..UptoSaid'. A law counts once. -/
mutual
def uptoBulk {H : Type} : DataW H → Nat
  | .lit (.string bytes) => bytes.length + 1
  | .lit _ => 1
  | .nil => 1
  | .ptr d => uptoBulk d + 1
  | .slice elems spare => uptoBulkAll elems + uptoBulkAll spare + 1
  | .agg parts => uptoBulkAll parts + 1
  | .iface _ d => uptoBulk d + 1
  | .map entries => uptoBulkEntries entries + 1
  | .held _ => 1
def uptoBulkAll {H : Type} : List (DataW H) → Nat
  | [] => 0
  | d :: r => uptoBulk d + uptoBulkAll r
def uptoBulkEntries {H : Type} : List (Lit × DataW H) → Nat
  | [] => 0
  | x :: r => uptoBulkEntry x + uptoBulkEntries r
def uptoBulkEntry {H : Type} : Lit × DataW H → Nat
  | (.string bytes, d) => bytes.length + uptoBulk d + 1
  | (_, d) => uptoBulk d + 1
 end
def uptoSmall : (H : Type) → List (DataW H) → Bool := fun _ ds => decide (uptoBulkAll ds ≤ 1048576)
def OpenSpec.upto (s : _root_.Go.ChangeSpec) : _root_.Go.OpenSpec := { _root_.Go.OpenSpec.ofChange s with cond := some uptoSmall }

/-- 'pagewatchlaw23.GroupWaits', WHERE WHAT IT READS IS OF BULK AT MOST 1048576: true; the input reads as it did. -/
def groupWaitsUptoRow : OpenClaim := { program := "ytcblbcpnfidndaa", sum := "ef0baee267005da3486427308316155a440e4d6cde322bc80c2a9c1d12642b50", func := "pagewatch/pagewatchlaw23.GroupWaits", spec := "groupWaits", inPlace := ["internal/abi.NoEscape", "internal/bytealg.MakeNoZero", "slices.overlaps[pagewatch/api.Member]"], unfollowed := true, recurses := true, apart := false, narrowed := true }
def GroupWaitsUptoSaid : Prop := groupWaitsUptoRow.holds Try.pinned (OpenSpec.upto groupWaitsSpec)

/-- 'pagewatchlaw23.GroupInterval', WHERE WHAT IT READS IS OF BULK AT MOST 1048576: true; the input reads as it did. -/
def groupIntervalUptoRow : OpenClaim := { program := "ytcblbcpnfidndaa", sum := "ef0baee267005da3486427308316155a440e4d6cde322bc80c2a9c1d12642b50", func := "pagewatch/pagewatchlaw23.GroupInterval", spec := "groupInterval", inPlace := ["internal/abi.NoEscape", "internal/bytealg.MakeNoZero", "slices.overlaps[pagewatch/api.Member]"], unfollowed := true, recurses := true, apart := false, narrowed := true }
def GroupIntervalUptoSaid : Prop := groupIntervalUptoRow.holds Try.pinned (OpenSpec.upto groupIntervalSpec)

/-- 'pagewatchlaw23.GroupMuted', WHERE WHAT IT READS IS OF BULK AT MOST 1048576: true; the input reads as it did. -/
def groupMutedUptoRow : OpenClaim := { program := "ytcblbcpnfidndaa", sum := "ef0baee267005da3486427308316155a440e4d6cde322bc80c2a9c1d12642b50", func := "pagewatch/pagewatchlaw23.GroupMuted", spec := "groupMuted", inPlace := ["internal/abi.NoEscape", "internal/bytealg.MakeNoZero", "slices.overlaps[pagewatch/api.Member]"], unfollowed := true, recurses := true, apart := false, narrowed := true }
def GroupMutedUptoSaid : Prop := groupMutedUptoRow.holds Try.pinned (OpenSpec.upto groupMutedSpec)

/-- 'pagewatchlaw23.GroupExact', WHERE WHAT IT READS IS OF BULK AT MOST 1048576: true; the input reads as it did. -/
def groupExactUptoRow : OpenClaim := { program := "ytcblbcpnfidndaa", sum := "ef0baee267005da3486427308316155a440e4d6cde322bc80c2a9c1d12642b50", func := "pagewatch/pagewatchlaw23.GroupExact", spec := "groupExact", inPlace := ["internal/abi.NoEscape", "internal/bytealg.MakeNoZero", "slices.overlaps[pagewatch/api.Member]"], unfollowed := true, recurses := true, apart := false, narrowed := true }
def GroupExactUptoSaid : Prop := groupExactUptoRow.holds Try.pinned (OpenSpec.upto groupExactSpec)

/-- 'pagewatchlaw23.GroupKeeps', WHERE WHAT IT READS IS OF BULK AT MOST 1048576: true; the input reads as it did. -/
def groupKeepsUptoRow : OpenClaim := { program := "ytcblbcpnfidndaa", sum := "ef0baee267005da3486427308316155a440e4d6cde322bc80c2a9c1d12642b50", func := "pagewatch/pagewatchlaw23.GroupKeeps", spec := "groupKeeps", inPlace := ["internal/abi.NoEscape", "internal/bytealg.MakeNoZero", "slices.overlaps[pagewatch/api.Member]"], unfollowed := true, recurses := true, apart := false, narrowed := true }
def GroupKeepsUptoSaid : Prop := groupKeepsUptoRow.holds Try.pinned (OpenSpec.upto groupKeepsSpec)

end Rows
end Go.Proofs.Ytcblbcpnfidndaa
