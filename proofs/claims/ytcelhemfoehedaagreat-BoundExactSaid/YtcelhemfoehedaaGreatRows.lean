/-
  No cell of these rows narrows 'for every input' (looked for: loops, veiled, ifaces, maps, wideKeys, modest, calm, conditions, laid).
  DERIVED. THE GIVEN ROWS OF THIS SEAT. 5 by the template 'for every input the law returns true; each argument reads behind the call as it read before'; 0 by the template 'total and deterministic' (their statements: YtcelhemfoehedaaGreatTotals.lean).
  GIVEN WITH THE SEED: the statements are not yours to turn. If you find one false, say at which input.
  Laid BY PROGRAM, IN A SANDBOX (cutbox-rows.mjs): the forced cells as the released guide's own fill.sh prints them over the translation 17d33f5ed956545b… (all of the seat's roots in one cut). By AI agents, Wed Nov 11 2026. No macro, syntax, notation, axiom, sorry.
-/
import Derived.Test.YtcelhemfoehedaaGreatChecked
import GoSem.Claim
import GoSem.ClaimJoined
import GoSem.ClaimMapViews
import Derived.JoinedTies
import Derived.KernelRfl
namespace Go.Proofs.YtcelhemfoehedaaGreat
/- THE CELL 'sum', in the pinned program and in every row, IS THE sha256 OF THE DUMP (.gsa) THAT YtcelhemfoehedaaGreatProg.lean LOADS. Nothing in Lean hashes anything: it is a label: what it is worth is what the hold of that sum in a sandbox is worth. -/
noncomputable def Tryz.pinned : Pinned := { name := "ytcelhemfoehedaagreat", sum := "17d33f5ed956545bbb71bfbef517772e98fe2e802f37777958f3e4eb4ca00a14", checked := Tryz.checked }
namespace Rows
def none {H : Type} : Left H := { results := [], args := [] }

/-- 'pagewatchlaw30.BoundAnswers': WHATEVER THE INPUT: true; the input reads as it did. -/
def boundAnswersSpec : ChangeSpec := { name := "boundAnswers", fn := fun _ => fun
  | [d] => { results := [.lit (.bool true)], args := [d] }
  | _ => none }
def boundAnswersRow : OpenClaim := { program := "ytcelhemfoehedaagreat", sum := "17d33f5ed956545bbb71bfbef517772e98fe2e802f37777958f3e4eb4ca00a14", func := "pagewatch/pagewatchlaw30.BoundAnswers", spec := "boundAnswers", unfollowed := true, recurses := true, apart := false }
def BoundAnswersSaid : Prop := boundAnswersRow.holds Tryz.pinned (OpenSpec.ofChange boundAnswersSpec)

/-- ITS FALSE NEIGHBOUR: 'it returns false'. Refute it at one input. -/
def boundAnswersWrong : ChangeSpec := { name := "boundAnswers", fn := fun _ => fun
  | [d] => { results := [.lit (.bool false)], args := [d] }
  | _ => none }
def BoundAnswersWrongFalsely : Prop := boundAnswersRow.holds Tryz.pinned (OpenSpec.ofChange boundAnswersWrong)

/-- 'pagewatchlaw30.BoundLatest': WHATEVER THE INPUT: true; the input reads as it did. -/
def boundLatestSpec : ChangeSpec := { name := "boundLatest", fn := fun _ => fun
  | [d] => { results := [.lit (.bool true)], args := [d] }
  | _ => none }
def boundLatestRow : OpenClaim := { program := "ytcelhemfoehedaagreat", sum := "17d33f5ed956545bbb71bfbef517772e98fe2e802f37777958f3e4eb4ca00a14", func := "pagewatch/pagewatchlaw30.BoundLatest", spec := "boundLatest", unfollowed := true, recurses := true, apart := false }
def BoundLatestSaid : Prop := boundLatestRow.holds Tryz.pinned (OpenSpec.ofChange boundLatestSpec)

/-- ITS FALSE NEIGHBOUR: 'it returns false'. Refute it at one input. -/
def boundLatestWrong : ChangeSpec := { name := "boundLatest", fn := fun _ => fun
  | [d] => { results := [.lit (.bool false)], args := [d] }
  | _ => none }
def BoundLatestWrongFalsely : Prop := boundLatestRow.holds Tryz.pinned (OpenSpec.ofChange boundLatestWrong)

/-- 'pagewatchlaw30.BoundWorst': WHATEVER THE INPUT: true; the input reads as it did. -/
def boundWorstSpec : ChangeSpec := { name := "boundWorst", fn := fun _ => fun
  | [d] => { results := [.lit (.bool true)], args := [d] }
  | _ => none }
def boundWorstRow : OpenClaim := { program := "ytcelhemfoehedaagreat", sum := "17d33f5ed956545bbb71bfbef517772e98fe2e802f37777958f3e4eb4ca00a14", func := "pagewatch/pagewatchlaw30.BoundWorst", spec := "boundWorst", unfollowed := true, recurses := true, apart := false }
def BoundWorstSaid : Prop := boundWorstRow.holds Tryz.pinned (OpenSpec.ofChange boundWorstSpec)

/-- ITS FALSE NEIGHBOUR: 'it returns false'. Refute it at one input. -/
def boundWorstWrong : ChangeSpec := { name := "boundWorst", fn := fun _ => fun
  | [d] => { results := [.lit (.bool false)], args := [d] }
  | _ => none }
def BoundWorstWrongFalsely : Prop := boundWorstRow.holds Tryz.pinned (OpenSpec.ofChange boundWorstWrong)

/-- 'pagewatchlaw30.BoundReached': WHATEVER THE INPUT: true; the input reads as it did. -/
def boundReachedSpec : ChangeSpec := { name := "boundReached", fn := fun _ => fun
  | [d] => { results := [.lit (.bool true)], args := [d] }
  | _ => none }
def boundReachedRow : OpenClaim := { program := "ytcelhemfoehedaagreat", sum := "17d33f5ed956545bbb71bfbef517772e98fe2e802f37777958f3e4eb4ca00a14", func := "pagewatch/pagewatchlaw30.BoundReached", spec := "boundReached", unfollowed := true, recurses := true, apart := false }
def BoundReachedSaid : Prop := boundReachedRow.holds Tryz.pinned (OpenSpec.ofChange boundReachedSpec)

/-- ITS FALSE NEIGHBOUR: 'it returns false'. Refute it at one input. -/
def boundReachedWrong : ChangeSpec := { name := "boundReached", fn := fun _ => fun
  | [d] => { results := [.lit (.bool false)], args := [d] }
  | _ => none }
def BoundReachedWrongFalsely : Prop := boundReachedRow.holds Tryz.pinned (OpenSpec.ofChange boundReachedWrong)

/-- 'pagewatchlaw30.BoundExact': WHATEVER THE INPUT: true; the input reads as it did. -/
def boundExactSpec : ChangeSpec := { name := "boundExact", fn := fun _ => fun
  | [d1, d2, d3] => { results := [.lit (.bool true)], args := [d1, d2, d3] }
  | _ => none }
def boundExactRow : OpenClaim := { program := "ytcelhemfoehedaagreat", sum := "17d33f5ed956545bbb71bfbef517772e98fe2e802f37777958f3e4eb4ca00a14", func := "pagewatch/pagewatchlaw30.BoundExact", spec := "boundExact", unfollowed := true, recurses := true, apart := false }
def BoundExactSaid : Prop := boundExactRow.holds Tryz.pinned (OpenSpec.ofChange boundExactSpec)

/-- ITS FALSE NEIGHBOUR: 'it returns false'. Refute it at one input. -/
def boundExactWrong : ChangeSpec := { name := "boundExact", fn := fun _ => fun
  | [d1, d2, d3] => { results := [.lit (.bool false)], args := [d1, d2, d3] }
  | _ => none }
def BoundExactWrongFalsely : Prop := boundExactRow.holds Tryz.pinned (OpenSpec.ofChange boundExactWrong)

/- THE SECOND FORM. 'bulk': how many values and letters a reading holds, each counted each time it is reached (what is shared counts as often as it is met; a slice's spare places count too). A statement '..UptoSaid' is the law's where the arguments, and the package variables that the reading takes, are together of bulk at most 1048576: NARROWER than '..Said'. Prove '..Said' where nothing that the law and all that it calls make is longer than what came in: it says more and counts as full. Else prove '..UptoSaid'. A law counts once. -/
mutual
def uptoBulk {H : Type} : DataW H → Nat
  | .lit (.string bytes) => bytes.length + 1
  | .lit _ => 1
  | .nil => 1
  | .ptr d => uptoBulk d + 1
  | .slice elems spare => uptoBulkAll elems + uptoBulkAll spare + 1
  | .agg parts => uptoBulkAll parts + 1
  | .iface _ d => uptoBulk d + 1
  | .map entries => uptoBulkEntries entries + 1
  | .held _ => 1
def uptoBulkAll {H : Type} : List (DataW H) → Nat
  | [] => 0
  | d :: r => uptoBulk d + uptoBulkAll r
def uptoBulkEntries {H : Type} : List (Lit × DataW H) → Nat
  | [] => 0
  | x :: r => uptoBulkEntry x + uptoBulkEntries r
def uptoBulkEntry {H : Type} : Lit × DataW H → Nat
  | (.string bytes, d) => bytes.length + uptoBulk d + 1
  | (_, d) => uptoBulk d + 1
 end
def uptoSmall : (H : Type) → List (DataW H) → Bool := fun _ ds => decide (uptoBulkAll ds ≤ 1048576)
def OpenSpec.upto (s : _root_.Go.ChangeSpec) : _root_.Go.OpenSpec := { _root_.Go.OpenSpec.ofChange s with cond := some uptoSmall }

/-- 'pagewatchlaw30.BoundAnswers', WHERE WHAT IT READS IS OF BULK AT MOST 1048576: true; the input reads as it did. -/
def boundAnswersUptoRow : OpenClaim := { program := "ytcelhemfoehedaagreat", sum := "17d33f5ed956545bbb71bfbef517772e98fe2e802f37777958f3e4eb4ca00a14", func := "pagewatch/pagewatchlaw30.BoundAnswers", spec := "boundAnswers", unfollowed := true, recurses := true, apart := false, narrowed := true }
def BoundAnswersUptoSaid : Prop := boundAnswersUptoRow.holds Tryz.pinned (OpenSpec.upto boundAnswersSpec)

/-- 'pagewatchlaw30.BoundLatest', WHERE WHAT IT READS IS OF BULK AT MOST 1048576: true; the input reads as it did. -/
def boundLatestUptoRow : OpenClaim := { program := "ytcelhemfoehedaagreat", sum := "17d33f5ed956545bbb71bfbef517772e98fe2e802f37777958f3e4eb4ca00a14", func := "pagewatch/pagewatchlaw30.BoundLatest", spec := "boundLatest", unfollowed := true, recurses := true, apart := false, narrowed := true }
def BoundLatestUptoSaid : Prop := boundLatestUptoRow.holds Tryz.pinned (OpenSpec.upto boundLatestSpec)

/-- 'pagewatchlaw30.BoundWorst', WHERE WHAT IT READS IS OF BULK AT MOST 1048576: true; the input reads as it did. -/
def boundWorstUptoRow : OpenClaim := { program := "ytcelhemfoehedaagreat", sum := "17d33f5ed956545bbb71bfbef517772e98fe2e802f37777958f3e4eb4ca00a14", func := "pagewatch/pagewatchlaw30.BoundWorst", spec := "boundWorst", unfollowed := true, recurses := true, apart := false, narrowed := true }
def BoundWorstUptoSaid : Prop := boundWorstUptoRow.holds Tryz.pinned (OpenSpec.upto boundWorstSpec)

/-- 'pagewatchlaw30.BoundReached', WHERE WHAT IT READS IS OF BULK AT MOST 1048576: true; the input reads as it did. -/
def boundReachedUptoRow : OpenClaim := { program := "ytcelhemfoehedaagreat", sum := "17d33f5ed956545bbb71bfbef517772e98fe2e802f37777958f3e4eb4ca00a14", func := "pagewatch/pagewatchlaw30.BoundReached", spec := "boundReached", unfollowed := true, recurses := true, apart := false, narrowed := true }
def BoundReachedUptoSaid : Prop := boundReachedUptoRow.holds Tryz.pinned (OpenSpec.upto boundReachedSpec)

/-- 'pagewatchlaw30.BoundExact', WHERE WHAT IT READS IS OF BULK AT MOST 1048576: true; the input reads as it did. -/
def boundExactUptoRow : OpenClaim := { program := "ytcelhemfoehedaagreat", sum := "17d33f5ed956545bbb71bfbef517772e98fe2e802f37777958f3e4eb4ca00a14", func := "pagewatch/pagewatchlaw30.BoundExact", spec := "boundExact", unfollowed := true, recurses := true, apart := false, narrowed := true }
def BoundExactUptoSaid : Prop := boundExactUptoRow.holds Tryz.pinned (OpenSpec.upto boundExactSpec)

end Rows
end Go.Proofs.YtcelhemfoehedaaGreat
