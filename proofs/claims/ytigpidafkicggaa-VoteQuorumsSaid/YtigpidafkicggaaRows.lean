/-
  No cell of these rows narrows 'for every input' (looked for: loops, veiled, ifaces, maps, wideKeys, modest, calm, conditions, laid).
  DERIVED. THE GIVEN ROWS OF THIS SEAT. 5 by the template 'for every input the law returns true; each argument reads behind the call as it read before'; 0 by the template 'total and deterministic' (their statements: YtigpidafkicggaaTotals.lean).
  GIVEN WITH THE SEED: the statements are not yours to turn. If you find one false, say at which input.
  Laid BY PROGRAM, IN A SANDBOX (cutbox-rows.mjs): the forced cells as the released guide's own fill.sh prints them over the translation a8ae4897313a19f6… (all of the seat's roots in one cut). By AI agents, Wed Nov 11 2026. No macro, syntax, notation, axiom, sorry.
-/
import Derived.Test.YtigpidafkicggaaChecked
import GoSem.Claim
import GoSem.ClaimJoined
import GoSem.ClaimMapViews
import Derived.JoinedTies
import Derived.KernelRfl
namespace Go.Proofs.Ytigpidafkicggaa
/- THE CELL 'sum', in the pinned program and in every row, IS THE sha256 OF THE DUMP (.gsa) THAT YtigpidafkicggaaProg.lean LOADS. Nothing in Lean hashes anything: it is a label: what it is worth is what the hold of that sum in a sandbox is worth. -/
noncomputable def Try.pinned : Pinned := { name := "ytigpidafkicggaa", sum := "a8ae4897313a19f6e870a82d543c5285dfcd42326cd58e2d4ab94108312c9b73", checked := Try.checked }
namespace Rows
def none {H : Type} : Left H := { results := [], args := [] }

/-- 'pagewatchlaw32.VoteFreshness': WHATEVER THE INPUT: true; the input reads as it did. -/
def voteFreshnessSpec : ChangeSpec := { name := "voteFreshness", fn := fun _ => fun
  | [d] => { results := [.lit (.bool true)], args := [d] }
  | _ => none }
def voteFreshnessRow : OpenClaim := { program := "ytigpidafkicggaa", sum := "a8ae4897313a19f6e870a82d543c5285dfcd42326cd58e2d4ab94108312c9b73", func := "pagewatch/pagewatchlaw32.VoteFreshness", spec := "voteFreshness", unfollowed := true, recurses := true, apart := false }
def VoteFreshnessSaid : Prop := voteFreshnessRow.holds Try.pinned (OpenSpec.ofChange voteFreshnessSpec)

/-- ITS FALSE NEIGHBOUR: 'it returns false'. Refute it at one input. -/
def voteFreshnessWrong : ChangeSpec := { name := "voteFreshness", fn := fun _ => fun
  | [d] => { results := [.lit (.bool false)], args := [d] }
  | _ => none }
def VoteFreshnessWrongFalsely : Prop := voteFreshnessRow.holds Try.pinned (OpenSpec.ofChange voteFreshnessWrong)

/-- 'pagewatchlaw32.VoteSteps': WHATEVER THE INPUT: true; the input reads as it did. -/
def voteStepsSpec : ChangeSpec := { name := "voteSteps", fn := fun _ => fun
  | [d1, d2, d3, d4] => { results := [.lit (.bool true)], args := [d1, d2, d3, d4] }
  | _ => none }
def voteStepsRow : OpenClaim := { program := "ytigpidafkicggaa", sum := "a8ae4897313a19f6e870a82d543c5285dfcd42326cd58e2d4ab94108312c9b73", func := "pagewatch/pagewatchlaw32.VoteSteps", spec := "voteSteps", unfollowed := true, recurses := true, apart := false }
def VoteStepsSaid : Prop := voteStepsRow.holds Try.pinned (OpenSpec.ofChange voteStepsSpec)

/-- ITS FALSE NEIGHBOUR: 'it returns false'. Refute it at one input. -/
def voteStepsWrong : ChangeSpec := { name := "voteSteps", fn := fun _ => fun
  | [d1, d2, d3, d4] => { results := [.lit (.bool false)], args := [d1, d2, d3, d4] }
  | _ => none }
def VoteStepsWrongFalsely : Prop := voteStepsRow.holds Try.pinned (OpenSpec.ofChange voteStepsWrong)

/-- 'pagewatchlaw32.VoteOnce': WHATEVER THE INPUT: true; the input reads as it did. -/
def voteOnceSpec : ChangeSpec := { name := "voteOnce", fn := fun _ => fun
  | [d] => { results := [.lit (.bool true)], args := [d] }
  | _ => none }
def voteOnceRow : OpenClaim := { program := "ytigpidafkicggaa", sum := "a8ae4897313a19f6e870a82d543c5285dfcd42326cd58e2d4ab94108312c9b73", func := "pagewatch/pagewatchlaw32.VoteOnce", spec := "voteOnce", unfollowed := true, recurses := true, apart := false }
def VoteOnceSaid : Prop := voteOnceRow.holds Try.pinned (OpenSpec.ofChange voteOnceSpec)

/-- ITS FALSE NEIGHBOUR: 'it returns false'. Refute it at one input. -/
def voteOnceWrong : ChangeSpec := { name := "voteOnce", fn := fun _ => fun
  | [d] => { results := [.lit (.bool false)], args := [d] }
  | _ => none }
def VoteOnceWrongFalsely : Prop := voteOnceRow.holds Try.pinned (OpenSpec.ofChange voteOnceWrong)

/-- 'pagewatchlaw32.VoteQuorums': WHATEVER THE INPUT: true; the input reads as it did. -/
def voteQuorumsSpec : ChangeSpec := { name := "voteQuorums", fn := fun _ => fun
  | [d1, d2, d3] => { results := [.lit (.bool true)], args := [d1, d2, d3] }
  | _ => none }
def voteQuorumsRow : OpenClaim := { program := "ytigpidafkicggaa", sum := "a8ae4897313a19f6e870a82d543c5285dfcd42326cd58e2d4ab94108312c9b73", func := "pagewatch/pagewatchlaw32.VoteQuorums", spec := "voteQuorums", unfollowed := true, recurses := true, apart := false }
def VoteQuorumsSaid : Prop := voteQuorumsRow.holds Try.pinned (OpenSpec.ofChange voteQuorumsSpec)

/-- ITS FALSE NEIGHBOUR: 'it returns false'. Refute it at one input. -/
def voteQuorumsWrong : ChangeSpec := { name := "voteQuorums", fn := fun _ => fun
  | [d1, d2, d3] => { results := [.lit (.bool false)], args := [d1, d2, d3] }
  | _ => none }
def VoteQuorumsWrongFalsely : Prop := voteQuorumsRow.holds Try.pinned (OpenSpec.ofChange voteQuorumsWrong)

/-- 'pagewatchlaw32.VoteLeads': WHATEVER THE INPUT: true; the input reads as it did. -/
def voteLeadsSpec : ChangeSpec := { name := "voteLeads", fn := fun _ => fun
  | [d] => { results := [.lit (.bool true)], args := [d] }
  | _ => none }
def voteLeadsRow : OpenClaim := { program := "ytigpidafkicggaa", sum := "a8ae4897313a19f6e870a82d543c5285dfcd42326cd58e2d4ab94108312c9b73", func := "pagewatch/pagewatchlaw32.VoteLeads", spec := "voteLeads", unfollowed := true, recurses := true, apart := false }
def VoteLeadsSaid : Prop := voteLeadsRow.holds Try.pinned (OpenSpec.ofChange voteLeadsSpec)

/-- ITS FALSE NEIGHBOUR: 'it returns false'. Refute it at one input. -/
def voteLeadsWrong : ChangeSpec := { name := "voteLeads", fn := fun _ => fun
  | [d] => { results := [.lit (.bool false)], args := [d] }
  | _ => none }
def VoteLeadsWrongFalsely : Prop := voteLeadsRow.holds Try.pinned (OpenSpec.ofChange voteLeadsWrong)

/- THE SECOND FORM. 'bulk': how many values and letters a reading holds, each counted each time it is reached (what is shared counts as often as it is met; a slice's spare places count too). A statement '..UptoSaid' is the law's where the arguments, and the package variables that the reading takes, are together of bulk at most 1048576: NARROWER than '..Said'. Prove '..Said' where nothing that the law and all that it calls make is longer than what came in: it says more and counts as full. Else prove '..UptoSaid'. A law counts once. -/
mutual
def uptoBulk {H : Type} : DataW H → Nat
  | .lit (.string bytes) => bytes.length + 1
  | .lit _ => 1
  | .nil => 1
  | .ptr d => uptoBulk d + 1
  | .slice elems spare => uptoBulkAll elems + uptoBulkAll spare + 1
  | .agg parts => uptoBulkAll parts + 1
  | .iface _ d => uptoBulk d + 1
  | .map entries => uptoBulkEntries entries + 1
  | .held _ => 1
def uptoBulkAll {H : Type} : List (DataW H) → Nat
  | [] => 0
  | d :: r => uptoBulk d + uptoBulkAll r
def uptoBulkEntries {H : Type} : List (Lit × DataW H) → Nat
  | [] => 0
  | x :: r => uptoBulkEntry x + uptoBulkEntries r
def uptoBulkEntry {H : Type} : Lit × DataW H → Nat
  | (.string bytes, d) => bytes.length + uptoBulk d + 1
  | (_, d) => uptoBulk d + 1
 end
def uptoSmall : (H : Type) → List (DataW H) → Bool := fun _ ds => decide (uptoBulkAll ds ≤ 1048576)
def OpenSpec.upto (s : _root_.Go.ChangeSpec) : _root_.Go.OpenSpec := { _root_.Go.OpenSpec.ofChange s with cond := some uptoSmall }

/-- 'pagewatchlaw32.VoteFreshness', WHERE WHAT IT READS IS OF BULK AT MOST 1048576: true; the input reads as it did. -/
def voteFreshnessUptoRow : OpenClaim := { program := "ytigpidafkicggaa", sum := "a8ae4897313a19f6e870a82d543c5285dfcd42326cd58e2d4ab94108312c9b73", func := "pagewatch/pagewatchlaw32.VoteFreshness", spec := "voteFreshness", unfollowed := true, recurses := true, apart := false, narrowed := true }
def VoteFreshnessUptoSaid : Prop := voteFreshnessUptoRow.holds Try.pinned (OpenSpec.upto voteFreshnessSpec)

/-- 'pagewatchlaw32.VoteSteps', WHERE WHAT IT READS IS OF BULK AT MOST 1048576: true; the input reads as it did. -/
def voteStepsUptoRow : OpenClaim := { program := "ytigpidafkicggaa", sum := "a8ae4897313a19f6e870a82d543c5285dfcd42326cd58e2d4ab94108312c9b73", func := "pagewatch/pagewatchlaw32.VoteSteps", spec := "voteSteps", unfollowed := true, recurses := true, apart := false, narrowed := true }
def VoteStepsUptoSaid : Prop := voteStepsUptoRow.holds Try.pinned (OpenSpec.upto voteStepsSpec)

/-- 'pagewatchlaw32.VoteOnce', WHERE WHAT IT READS IS OF BULK AT MOST 1048576: true; the input reads as it did. -/
def voteOnceUptoRow : OpenClaim := { program := "ytigpidafkicggaa", sum := "a8ae4897313a19f6e870a82d543c5285dfcd42326cd58e2d4ab94108312c9b73", func := "pagewatch/pagewatchlaw32.VoteOnce", spec := "voteOnce", unfollowed := true, recurses := true, apart := false, narrowed := true }
def VoteOnceUptoSaid : Prop := voteOnceUptoRow.holds Try.pinned (OpenSpec.upto voteOnceSpec)

/-- 'pagewatchlaw32.VoteQuorums', WHERE WHAT IT READS IS OF BULK AT MOST 1048576: true; the input reads as it did. -/
def voteQuorumsUptoRow : OpenClaim := { program := "ytigpidafkicggaa", sum := "a8ae4897313a19f6e870a82d543c5285dfcd42326cd58e2d4ab94108312c9b73", func := "pagewatch/pagewatchlaw32.VoteQuorums", spec := "voteQuorums", unfollowed := true, recurses := true, apart := false, narrowed := true }
def VoteQuorumsUptoSaid : Prop := voteQuorumsUptoRow.holds Try.pinned (OpenSpec.upto voteQuorumsSpec)

/-- 'pagewatchlaw32.VoteLeads', WHERE WHAT IT READS IS OF BULK AT MOST 1048576: true; the input reads as it did. -/
def voteLeadsUptoRow : OpenClaim := { program := "ytigpidafkicggaa", sum := "a8ae4897313a19f6e870a82d543c5285dfcd42326cd58e2d4ab94108312c9b73", func := "pagewatch/pagewatchlaw32.VoteLeads", spec := "voteLeads", unfollowed := true, recurses := true, apart := false, narrowed := true }
def VoteLeadsUptoSaid : Prop := voteLeadsUptoRow.holds Try.pinned (OpenSpec.upto voteLeadsSpec)

end Rows
end Go.Proofs.Ytigpidafkicggaa
