/-
  No cell of these rows narrows 'for every input' (looked for: loops, veiled, ifaces, maps, wideKeys, modest, calm, conditions, laid).
  DERIVED. THE GIVEN ROWS OF THIS SEAT. 13 by the template 'for every input the law returns true; each argument reads behind the call as it read before'; 0 by the template 'total and deterministic' (their statements: YtfbikpbejkgegaaTotals.lean).
  GIVEN WITH THE SEED: the statements are not yours to turn. If you find one false, say at which input.
  Laid BY PROGRAM, IN A SANDBOX (cutbox-rows.mjs): the forced cells as the released guide's own fill.sh prints them over the translation 81c3421bf4ff8910… (all of the seat's roots in one cut). By AI agents, Wed Nov 11 2026. No macro, syntax, notation, axiom, sorry.
-/
import Derived.Test.YtfbikpbejkgegaaChecked
import GoSem.Claim
import GoSem.ClaimJoined
import GoSem.ClaimMapViews
import Derived.JoinedTies
import Derived.KernelRfl
namespace Go.Proofs.Ytfbikpbejkgegaa
/- THE CELL 'sum', in the pinned program and in every row, IS THE sha256 OF THE DUMP (.gsa) THAT YtfbikpbejkgegaaProg.lean LOADS. Nothing in Lean hashes anything: it is a label: what it is worth is what the hold of that sum in a sandbox is worth. -/
noncomputable def Try.pinned : Pinned := { name := "ytfbikpbejkgegaa", sum := "81c3421bf4ff89102e16c52d52b22631f8559d690b124d652e6d3d0d42232e6b", checked := Try.checked }
namespace Rows
def none {H : Type} : Left H := { results := [], args := [] }

/-- 'pagewatchlaw32.VoteFreshness': WHATEVER THE INPUT: true; the input reads as it did. -/
def voteFreshnessSpec : ChangeSpec := { name := "voteFreshness", fn := fun _ => fun
  | [d] => { results := [.lit (.bool true)], args := [d] }
  | _ => none }
def voteFreshnessRow : OpenClaim := { program := "ytfbikpbejkgegaa", sum := "81c3421bf4ff89102e16c52d52b22631f8559d690b124d652e6d3d0d42232e6b", func := "pagewatch/pagewatchlaw32.VoteFreshness", spec := "voteFreshness", unfollowed := true, recurses := true, apart := false }
def VoteFreshnessSaid : Prop := voteFreshnessRow.holds Try.pinned (OpenSpec.ofChange voteFreshnessSpec)

/-- ITS FALSE NEIGHBOUR: 'it returns false'. Refute it at one input. -/
def voteFreshnessWrong : ChangeSpec := { name := "voteFreshness", fn := fun _ => fun
  | [d] => { results := [.lit (.bool false)], args := [d] }
  | _ => none }
def VoteFreshnessWrongFalsely : Prop := voteFreshnessRow.holds Try.pinned (OpenSpec.ofChange voteFreshnessWrong)

/-- 'pagewatchlaw32.VoteSteps': WHATEVER THE INPUT: true; the input reads as it did. -/
def voteStepsSpec : ChangeSpec := { name := "voteSteps", fn := fun _ => fun
  | [d1, d2, d3, d4] => { results := [.lit (.bool true)], args := [d1, d2, d3, d4] }
  | _ => none }
def voteStepsRow : OpenClaim := { program := "ytfbikpbejkgegaa", sum := "81c3421bf4ff89102e16c52d52b22631f8559d690b124d652e6d3d0d42232e6b", func := "pagewatch/pagewatchlaw32.VoteSteps", spec := "voteSteps", unfollowed := true, recurses := true, apart := false }
def VoteStepsSaid : Prop := voteStepsRow.holds Try.pinned (OpenSpec.ofChange voteStepsSpec)

/-- ITS FALSE NEIGHBOUR: 'it returns false'. Refute it at one input. -/
def voteStepsWrong : ChangeSpec := { name := "voteSteps", fn := fun _ => fun
  | [d1, d2, d3, d4] => { results := [.lit (.bool false)], args := [d1, d2, d3, d4] }
  | _ => none }
def VoteStepsWrongFalsely : Prop := voteStepsRow.holds Try.pinned (OpenSpec.ofChange voteStepsWrong)

/-- 'pagewatchlaw32.VoteOnce': WHATEVER THE INPUT: true; the input reads as it did. -/
def voteOnceSpec : ChangeSpec := { name := "voteOnce", fn := fun _ => fun
  | [d] => { results := [.lit (.bool true)], args := [d] }
  | _ => none }
def voteOnceRow : OpenClaim := { program := "ytfbikpbejkgegaa", sum := "81c3421bf4ff89102e16c52d52b22631f8559d690b124d652e6d3d0d42232e6b", func := "pagewatch/pagewatchlaw32.VoteOnce", spec := "voteOnce", unfollowed := true, recurses := true, apart := false }
def VoteOnceSaid : Prop := voteOnceRow.holds Try.pinned (OpenSpec.ofChange voteOnceSpec)

/-- ITS FALSE NEIGHBOUR: 'it returns false'. Refute it at one input. -/
def voteOnceWrong : ChangeSpec := { name := "voteOnce", fn := fun _ => fun
  | [d] => { results := [.lit (.bool false)], args := [d] }
  | _ => none }
def VoteOnceWrongFalsely : Prop := voteOnceRow.holds Try.pinned (OpenSpec.ofChange voteOnceWrong)

/-- 'pagewatchlaw32.VoteLeads': WHATEVER THE INPUT: true; the input reads as it did. -/
def voteLeadsSpec : ChangeSpec := { name := "voteLeads", fn := fun _ => fun
  | [d] => { results := [.lit (.bool true)], args := [d] }
  | _ => none }
def voteLeadsRow : OpenClaim := { program := "ytfbikpbejkgegaa", sum := "81c3421bf4ff89102e16c52d52b22631f8559d690b124d652e6d3d0d42232e6b", func := "pagewatch/pagewatchlaw32.VoteLeads", spec := "voteLeads", unfollowed := true, recurses := true, apart := false }
def VoteLeadsSaid : Prop := voteLeadsRow.holds Try.pinned (OpenSpec.ofChange voteLeadsSpec)

/-- ITS FALSE NEIGHBOUR: 'it returns false'. Refute it at one input. -/
def voteLeadsWrong : ChangeSpec := { name := "voteLeads", fn := fun _ => fun
  | [d] => { results := [.lit (.bool false)], args := [d] }
  | _ => none }
def VoteLeadsWrongFalsely : Prop := voteLeadsRow.holds Try.pinned (OpenSpec.ofChange voteLeadsWrong)

/-- 'pagewatchlaw33.ReplicaCommits': WHATEVER THE INPUT: true; the input reads as it did. -/
def replicaCommitsSpec : ChangeSpec := { name := "replicaCommits", fn := fun _ => fun
  | [d] => { results := [.lit (.bool true)], args := [d] }
  | _ => none }
def replicaCommitsRow : OpenClaim := { program := "ytfbikpbejkgegaa", sum := "81c3421bf4ff89102e16c52d52b22631f8559d690b124d652e6d3d0d42232e6b", func := "pagewatch/pagewatchlaw33.ReplicaCommits", spec := "replicaCommits", unfollowed := true, recurses := true, apart := false }
def ReplicaCommitsSaid : Prop := replicaCommitsRow.holds Try.pinned (OpenSpec.ofChange replicaCommitsSpec)

/-- ITS FALSE NEIGHBOUR: 'it returns false'. Refute it at one input. -/
def replicaCommitsWrong : ChangeSpec := { name := "replicaCommits", fn := fun _ => fun
  | [d] => { results := [.lit (.bool false)], args := [d] }
  | _ => none }
def ReplicaCommitsWrongFalsely : Prop := replicaCommitsRow.holds Try.pinned (OpenSpec.ofChange replicaCommitsWrong)

/-- 'pagewatchlaw33.ReplicaAppends': WHATEVER THE INPUT: true; the input reads as it did. -/
def replicaAppendsSpec : ChangeSpec := { name := "replicaAppends", fn := fun _ => fun
  | [d] => { results := [.lit (.bool true)], args := [d] }
  | _ => none }
def replicaAppendsRow : OpenClaim := { program := "ytfbikpbejkgegaa", sum := "81c3421bf4ff89102e16c52d52b22631f8559d690b124d652e6d3d0d42232e6b", func := "pagewatch/pagewatchlaw33.ReplicaAppends", spec := "replicaAppends", unfollowed := true, recurses := true, apart := false }
def ReplicaAppendsSaid : Prop := replicaAppendsRow.holds Try.pinned (OpenSpec.ofChange replicaAppendsSpec)

/-- ITS FALSE NEIGHBOUR: 'it returns false'. Refute it at one input. -/
def replicaAppendsWrong : ChangeSpec := { name := "replicaAppends", fn := fun _ => fun
  | [d] => { results := [.lit (.bool false)], args := [d] }
  | _ => none }
def ReplicaAppendsWrongFalsely : Prop := replicaAppendsRow.holds Try.pinned (OpenSpec.ofChange replicaAppendsWrong)

/-- 'pagewatchlaw33.ReplicaKeeps': WHATEVER THE INPUT: true; the input reads as it did. -/
def replicaKeepsSpec : ChangeSpec := { name := "replicaKeeps", fn := fun _ => fun
  | [d] => { results := [.lit (.bool true)], args := [d] }
  | _ => none }
def replicaKeepsRow : OpenClaim := { program := "ytfbikpbejkgegaa", sum := "81c3421bf4ff89102e16c52d52b22631f8559d690b124d652e6d3d0d42232e6b", func := "pagewatch/pagewatchlaw33.ReplicaKeeps", spec := "replicaKeeps", unfollowed := true, recurses := true, apart := false }
def ReplicaKeepsSaid : Prop := replicaKeepsRow.holds Try.pinned (OpenSpec.ofChange replicaKeepsSpec)

/-- ITS FALSE NEIGHBOUR: 'it returns false'. Refute it at one input. -/
def replicaKeepsWrong : ChangeSpec := { name := "replicaKeeps", fn := fun _ => fun
  | [d] => { results := [.lit (.bool false)], args := [d] }
  | _ => none }
def ReplicaKeepsWrongFalsely : Prop := replicaKeepsRow.holds Try.pinned (OpenSpec.ofChange replicaKeepsWrong)

/-- 'pagewatchlaw33.ReplicaLeads': WHATEVER THE INPUT: true; the input reads as it did. -/
def replicaLeadsSpec : ChangeSpec := { name := "replicaLeads", fn := fun _ => fun
  | [d] => { results := [.lit (.bool true)], args := [d] }
  | _ => none }
def replicaLeadsRow : OpenClaim := { program := "ytfbikpbejkgegaa", sum := "81c3421bf4ff89102e16c52d52b22631f8559d690b124d652e6d3d0d42232e6b", func := "pagewatch/pagewatchlaw33.ReplicaLeads", spec := "replicaLeads", unfollowed := true, recurses := true, apart := false }
def ReplicaLeadsSaid : Prop := replicaLeadsRow.holds Try.pinned (OpenSpec.ofChange replicaLeadsSpec)

/-- ITS FALSE NEIGHBOUR: 'it returns false'. Refute it at one input. -/
def replicaLeadsWrong : ChangeSpec := { name := "replicaLeads", fn := fun _ => fun
  | [d] => { results := [.lit (.bool false)], args := [d] }
  | _ => none }
def ReplicaLeadsWrongFalsely : Prop := replicaLeadsRow.holds Try.pinned (OpenSpec.ofChange replicaLeadsWrong)

/-- 'pagewatchlaw33.ReplicaSteps': WHATEVER THE INPUT: true; the input reads as it did. -/
def replicaStepsSpec : ChangeSpec := { name := "replicaSteps", fn := fun _ => fun
  | [d1, d2, d3, d4] => { results := [.lit (.bool true)], args := [d1, d2, d3, d4] }
  | _ => none }
def replicaStepsRow : OpenClaim := { program := "ytfbikpbejkgegaa", sum := "81c3421bf4ff89102e16c52d52b22631f8559d690b124d652e6d3d0d42232e6b", func := "pagewatch/pagewatchlaw33.ReplicaSteps", spec := "replicaSteps", unfollowed := true, recurses := true, apart := false }
def ReplicaStepsSaid : Prop := replicaStepsRow.holds Try.pinned (OpenSpec.ofChange replicaStepsSpec)

/-- ITS FALSE NEIGHBOUR: 'it returns false'. Refute it at one input. -/
def replicaStepsWrong : ChangeSpec := { name := "replicaSteps", fn := fun _ => fun
  | [d1, d2, d3, d4] => { results := [.lit (.bool false)], args := [d1, d2, d3, d4] }
  | _ => none }
def ReplicaStepsWrongFalsely : Prop := replicaStepsRow.holds Try.pinned (OpenSpec.ofChange replicaStepsWrong)

/-- 'pagewatchlaw34.RegionMinority': WHATEVER THE INPUT: true; the input reads as it did. -/
def regionMinoritySpec : ChangeSpec := { name := "regionMinority", fn := fun _ => fun
  | [d] => { results := [.lit (.bool true)], args := [d] }
  | _ => none }
def regionMinorityRow : OpenClaim := { program := "ytfbikpbejkgegaa", sum := "81c3421bf4ff89102e16c52d52b22631f8559d690b124d652e6d3d0d42232e6b", func := "pagewatch/pagewatchlaw34.RegionMinority", spec := "regionMinority", unfollowed := true, recurses := true, apart := false }
def RegionMinoritySaid : Prop := regionMinorityRow.holds Try.pinned (OpenSpec.ofChange regionMinoritySpec)

/-- ITS FALSE NEIGHBOUR: 'it returns false'. Refute it at one input. -/
def regionMinorityWrong : ChangeSpec := { name := "regionMinority", fn := fun _ => fun
  | [d] => { results := [.lit (.bool false)], args := [d] }
  | _ => none }
def RegionMinorityWrongFalsely : Prop := regionMinorityRow.holds Try.pinned (OpenSpec.ofChange regionMinorityWrong)

/-- 'pagewatchlaw34.RegionAgrees': WHATEVER THE INPUT: true; the input reads as it did. -/
def regionAgreesSpec : ChangeSpec := { name := "regionAgrees", fn := fun _ => fun
  | [d] => { results := [.lit (.bool true)], args := [d] }
  | _ => none }
def regionAgreesRow : OpenClaim := { program := "ytfbikpbejkgegaa", sum := "81c3421bf4ff89102e16c52d52b22631f8559d690b124d652e6d3d0d42232e6b", func := "pagewatch/pagewatchlaw34.RegionAgrees", spec := "regionAgrees", unfollowed := true, recurses := true, apart := false }
def RegionAgreesSaid : Prop := regionAgreesRow.holds Try.pinned (OpenSpec.ofChange regionAgreesSpec)

/-- ITS FALSE NEIGHBOUR: 'it returns false'. Refute it at one input. -/
def regionAgreesWrong : ChangeSpec := { name := "regionAgrees", fn := fun _ => fun
  | [d] => { results := [.lit (.bool false)], args := [d] }
  | _ => none }
def RegionAgreesWrongFalsely : Prop := regionAgreesRow.holds Try.pinned (OpenSpec.ofChange regionAgreesWrong)

/-- 'pagewatchlaw34.RegionMatches': WHATEVER THE INPUT: true; the input reads as it did. -/
def regionMatchesSpec : ChangeSpec := { name := "regionMatches", fn := fun _ => fun
  | [d] => { results := [.lit (.bool true)], args := [d] }
  | _ => none }
def regionMatchesRow : OpenClaim := { program := "ytfbikpbejkgegaa", sum := "81c3421bf4ff89102e16c52d52b22631f8559d690b124d652e6d3d0d42232e6b", func := "pagewatch/pagewatchlaw34.RegionMatches", spec := "regionMatches", unfollowed := true, recurses := true, apart := false }
def RegionMatchesSaid : Prop := regionMatchesRow.holds Try.pinned (OpenSpec.ofChange regionMatchesSpec)

/-- ITS FALSE NEIGHBOUR: 'it returns false'. Refute it at one input. -/
def regionMatchesWrong : ChangeSpec := { name := "regionMatches", fn := fun _ => fun
  | [d] => { results := [.lit (.bool false)], args := [d] }
  | _ => none }
def RegionMatchesWrongFalsely : Prop := regionMatchesRow.holds Try.pinned (OpenSpec.ofChange regionMatchesWrong)

/-- 'pagewatchlaw34.RegionMajority': WHATEVER THE INPUT: true; the input reads as it did. -/
def regionMajoritySpec : ChangeSpec := { name := "regionMajority", fn := fun _ => fun
  | [d] => { results := [.lit (.bool true)], args := [d] }
  | _ => none }
def regionMajorityRow : OpenClaim := { program := "ytfbikpbejkgegaa", sum := "81c3421bf4ff89102e16c52d52b22631f8559d690b124d652e6d3d0d42232e6b", func := "pagewatch/pagewatchlaw34.RegionMajority", spec := "regionMajority", unfollowed := true, recurses := true, apart := false }
def RegionMajoritySaid : Prop := regionMajorityRow.holds Try.pinned (OpenSpec.ofChange regionMajoritySpec)

/-- ITS FALSE NEIGHBOUR: 'it returns false'. Refute it at one input. -/
def regionMajorityWrong : ChangeSpec := { name := "regionMajority", fn := fun _ => fun
  | [d] => { results := [.lit (.bool false)], args := [d] }
  | _ => none }
def RegionMajorityWrongFalsely : Prop := regionMajorityRow.holds Try.pinned (OpenSpec.ofChange regionMajorityWrong)

/- THE SECOND FORM. 'bulk': how many values and letters a reading holds, each counted each time it is reached (what is shared counts as often as it is met; a slice's spare places count too). A statement '..UptoSaid' is the law's where the arguments, and the package variables that the reading takes, are together of bulk at most 1048576: NARROWER than '..Said'. Prove '..Said' where nothing that the law and all that it calls make is longer than what came in: it says more and counts as full. Else prove '..UptoSaid'. A law counts once. -/
mutual
def uptoBulk {H : Type} : DataW H → Nat
  | .lit (.string bytes) => bytes.length + 1
  | .lit _ => 1
  | .nil => 1
  | .ptr d => uptoBulk d + 1
  | .slice elems spare => uptoBulkAll elems + uptoBulkAll spare + 1
  | .agg parts => uptoBulkAll parts + 1
  | .iface _ d => uptoBulk d + 1
  | .map entries => uptoBulkEntries entries + 1
  | .held _ => 1
def uptoBulkAll {H : Type} : List (DataW H) → Nat
  | [] => 0
  | d :: r => uptoBulk d + uptoBulkAll r
def uptoBulkEntries {H : Type} : List (Lit × DataW H) → Nat
  | [] => 0
  | x :: r => uptoBulkEntry x + uptoBulkEntries r
def uptoBulkEntry {H : Type} : Lit × DataW H → Nat
  | (.string bytes, d) => bytes.length + uptoBulk d + 1
  | (_, d) => uptoBulk d + 1
 end
def uptoSmall : (H : Type) → List (DataW H) → Bool := fun _ ds => decide (uptoBulkAll ds ≤ 1048576)
def OpenSpec.upto (s : _root_.Go.ChangeSpec) : _root_.Go.OpenSpec := { _root_.Go.OpenSpec.ofChange s with cond := some uptoSmall }

/-- 'pagewatchlaw32.VoteFreshness', WHERE WHAT IT READS IS OF BULK AT MOST 1048576: true; the input reads as it did. -/
def voteFreshnessUptoRow : OpenClaim := { program := "ytfbikpbejkgegaa", sum := "81c3421bf4ff89102e16c52d52b22631f8559d690b124d652e6d3d0d42232e6b", func := "pagewatch/pagewatchlaw32.VoteFreshness", spec := "voteFreshness", unfollowed := true, recurses := true, apart := false, narrowed := true }
def VoteFreshnessUptoSaid : Prop := voteFreshnessUptoRow.holds Try.pinned (OpenSpec.upto voteFreshnessSpec)

/-- 'pagewatchlaw32.VoteSteps', WHERE WHAT IT READS IS OF BULK AT MOST 1048576: true; the input reads as it did. -/
def voteStepsUptoRow : OpenClaim := { program := "ytfbikpbejkgegaa", sum := "81c3421bf4ff89102e16c52d52b22631f8559d690b124d652e6d3d0d42232e6b", func := "pagewatch/pagewatchlaw32.VoteSteps", spec := "voteSteps", unfollowed := true, recurses := true, apart := false, narrowed := true }
def VoteStepsUptoSaid : Prop := voteStepsUptoRow.holds Try.pinned (OpenSpec.upto voteStepsSpec)

/-- 'pagewatchlaw32.VoteOnce', WHERE WHAT IT READS IS OF BULK AT MOST 1048576: true; the input reads as it did. -/
def voteOnceUptoRow : OpenClaim := { program := "ytfbikpbejkgegaa", sum := "81c3421bf4ff89102e16c52d52b22631f8559d690b124d652e6d3d0d42232e6b", func := "pagewatch/pagewatchlaw32.VoteOnce", spec := "voteOnce", unfollowed := true, recurses := true, apart := false, narrowed := true }
def VoteOnceUptoSaid : Prop := voteOnceUptoRow.holds Try.pinned (OpenSpec.upto voteOnceSpec)

/-- 'pagewatchlaw32.VoteLeads', WHERE WHAT IT READS IS OF BULK AT MOST 1048576: true; the input reads as it did. -/
def voteLeadsUptoRow : OpenClaim := { program := "ytfbikpbejkgegaa", sum := "81c3421bf4ff89102e16c52d52b22631f8559d690b124d652e6d3d0d42232e6b", func := "pagewatch/pagewatchlaw32.VoteLeads", spec := "voteLeads", unfollowed := true, recurses := true, apart := false, narrowed := true }
def VoteLeadsUptoSaid : Prop := voteLeadsUptoRow.holds Try.pinned (OpenSpec.upto voteLeadsSpec)

/-- 'pagewatchlaw33.ReplicaCommits', WHERE WHAT IT READS IS OF BULK AT MOST 1048576: true; the input reads as it did. -/
def replicaCommitsUptoRow : OpenClaim := { program := "ytfbikpbejkgegaa", sum := "81c3421bf4ff89102e16c52d52b22631f8559d690b124d652e6d3d0d42232e6b", func := "pagewatch/pagewatchlaw33.ReplicaCommits", spec := "replicaCommits", unfollowed := true, recurses := true, apart := false, narrowed := true }
def ReplicaCommitsUptoSaid : Prop := replicaCommitsUptoRow.holds Try.pinned (OpenSpec.upto replicaCommitsSpec)

/-- 'pagewatchlaw33.ReplicaAppends', WHERE WHAT IT READS IS OF BULK AT MOST 1048576: true; the input reads as it did. -/
def replicaAppendsUptoRow : OpenClaim := { program := "ytfbikpbejkgegaa", sum := "81c3421bf4ff89102e16c52d52b22631f8559d690b124d652e6d3d0d42232e6b", func := "pagewatch/pagewatchlaw33.ReplicaAppends", spec := "replicaAppends", unfollowed := true, recurses := true, apart := false, narrowed := true }
def ReplicaAppendsUptoSaid : Prop := replicaAppendsUptoRow.holds Try.pinned (OpenSpec.upto replicaAppendsSpec)

/-- 'pagewatchlaw33.ReplicaKeeps', WHERE WHAT IT READS IS OF BULK AT MOST 1048576: true; the input reads as it did. -/
def replicaKeepsUptoRow : OpenClaim := { program := "ytfbikpbejkgegaa", sum := "81c3421bf4ff89102e16c52d52b22631f8559d690b124d652e6d3d0d42232e6b", func := "pagewatch/pagewatchlaw33.ReplicaKeeps", spec := "replicaKeeps", unfollowed := true, recurses := true, apart := false, narrowed := true }
def ReplicaKeepsUptoSaid : Prop := replicaKeepsUptoRow.holds Try.pinned (OpenSpec.upto replicaKeepsSpec)

/-- 'pagewatchlaw33.ReplicaLeads', WHERE WHAT IT READS IS OF BULK AT MOST 1048576: true; the input reads as it did. -/
def replicaLeadsUptoRow : OpenClaim := { program := "ytfbikpbejkgegaa", sum := "81c3421bf4ff89102e16c52d52b22631f8559d690b124d652e6d3d0d42232e6b", func := "pagewatch/pagewatchlaw33.ReplicaLeads", spec := "replicaLeads", unfollowed := true, recurses := true, apart := false, narrowed := true }
def ReplicaLeadsUptoSaid : Prop := replicaLeadsUptoRow.holds Try.pinned (OpenSpec.upto replicaLeadsSpec)

/-- 'pagewatchlaw33.ReplicaSteps', WHERE WHAT IT READS IS OF BULK AT MOST 1048576: true; the input reads as it did. -/
def replicaStepsUptoRow : OpenClaim := { program := "ytfbikpbejkgegaa", sum := "81c3421bf4ff89102e16c52d52b22631f8559d690b124d652e6d3d0d42232e6b", func := "pagewatch/pagewatchlaw33.ReplicaSteps", spec := "replicaSteps", unfollowed := true, recurses := true, apart := false, narrowed := true }
def ReplicaStepsUptoSaid : Prop := replicaStepsUptoRow.holds Try.pinned (OpenSpec.upto replicaStepsSpec)

/-- 'pagewatchlaw34.RegionMinority', WHERE WHAT IT READS IS OF BULK AT MOST 1048576: true; the input reads as it did. -/
def regionMinorityUptoRow : OpenClaim := { program := "ytfbikpbejkgegaa", sum := "81c3421bf4ff89102e16c52d52b22631f8559d690b124d652e6d3d0d42232e6b", func := "pagewatch/pagewatchlaw34.RegionMinority", spec := "regionMinority", unfollowed := true, recurses := true, apart := false, narrowed := true }
def RegionMinorityUptoSaid : Prop := regionMinorityUptoRow.holds Try.pinned (OpenSpec.upto regionMinoritySpec)

/-- 'pagewatchlaw34.RegionAgrees', WHERE WHAT IT READS IS OF BULK AT MOST 1048576: true; the input reads as it did. -/
def regionAgreesUptoRow : OpenClaim := { program := "ytfbikpbejkgegaa", sum := "81c3421bf4ff89102e16c52d52b22631f8559d690b124d652e6d3d0d42232e6b", func := "pagewatch/pagewatchlaw34.RegionAgrees", spec := "regionAgrees", unfollowed := true, recurses := true, apart := false, narrowed := true }
def RegionAgreesUptoSaid : Prop := regionAgreesUptoRow.holds Try.pinned (OpenSpec.upto regionAgreesSpec)

/-- 'pagewatchlaw34.RegionMatches', WHERE WHAT IT READS IS OF BULK AT MOST 1048576: true; the input reads as it did. -/
def regionMatchesUptoRow : OpenClaim := { program := "ytfbikpbejkgegaa", sum := "81c3421bf4ff89102e16c52d52b22631f8559d690b124d652e6d3d0d42232e6b", func := "pagewatch/pagewatchlaw34.RegionMatches", spec := "regionMatches", unfollowed := true, recurses := true, apart := false, narrowed := true }
def RegionMatchesUptoSaid : Prop := regionMatchesUptoRow.holds Try.pinned (OpenSpec.upto regionMatchesSpec)

/-- 'pagewatchlaw34.RegionMajority', WHERE WHAT IT READS IS OF BULK AT MOST 1048576: true; the input reads as it did. -/
def regionMajorityUptoRow : OpenClaim := { program := "ytfbikpbejkgegaa", sum := "81c3421bf4ff89102e16c52d52b22631f8559d690b124d652e6d3d0d42232e6b", func := "pagewatch/pagewatchlaw34.RegionMajority", spec := "regionMajority", unfollowed := true, recurses := true, apart := false, narrowed := true }
def RegionMajorityUptoSaid : Prop := regionMajorityUptoRow.holds Try.pinned (OpenSpec.upto regionMajoritySpec)

end Rows
end Go.Proofs.Ytfbikpbejkgegaa
