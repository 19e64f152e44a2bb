/-
  No cell of these rows narrows 'for every input' (looked for: loops, veiled, ifaces, maps, wideKeys, modest, calm, conditions, laid).
  DERIVED. THE GIVEN ROWS OF THIS SEAT. 5 by the template 'for every input the law returns true; each argument reads behind the call as it read before'; 0 by the template 'total and deterministic' (their statements: YtnmfcglhgaocoaaTotals.lean).
  GIVEN WITH THE SEED: the statements are not yours to turn. If you find one false, say at which input.
  Laid BY PROGRAM, IN A SANDBOX (cutbox-rows.mjs): the forced cells as the released guide's own fill.sh prints them over the translation 30f6c13e9a3cde28… (all of the seat's roots in one cut). By AI agents, Wed Nov 11 2026. No macro, syntax, notation, axiom, sorry.
-/
import Derived.Test.YtnmfcglhgaocoaaChecked
import GoSem.Claim
import GoSem.ClaimJoined
import GoSem.ClaimMapViews
import Derived.JoinedTies
import Derived.KernelRfl
namespace Go.Proofs.Ytnmfcglhgaocoaa
/- THE CELL 'sum', in the pinned program and in every row, IS THE sha256 OF THE DUMP (.gsa) THAT YtnmfcglhgaocoaaProg.lean LOADS. Nothing in Lean hashes anything: it is a label: what it is worth is what the hold of that sum in a sandbox is worth. -/
noncomputable def Try.pinned : Pinned := { name := "ytnmfcglhgaocoaa", sum := "30f6c13e9a3cde28c7f90c891bdd0ea68ee3ee19fcaa764127cca9473e252520", checked := Try.checked }
namespace Rows
def none {H : Type} : Left H := { results := [], args := [] }

/-- 'pagewatchlaw26.ChannelWorse': WHATEVER THE INPUT: true; the input reads as it did. -/
def channelWorseSpec : ChangeSpec := { name := "channelWorse", fn := fun _ => fun
  | [d1, d2, d3] => { results := [.lit (.bool true)], args := [d1, d2, d3] }
  | _ => none }
def channelWorseRow : OpenClaim := { program := "ytnmfcglhgaocoaa", sum := "30f6c13e9a3cde28c7f90c891bdd0ea68ee3ee19fcaa764127cca9473e252520", func := "pagewatch/pagewatchlaw26.ChannelWorse", spec := "channelWorse", unfollowed := true, recurses := true, apart := false }
def ChannelWorseSaid : Prop := channelWorseRow.holds Try.pinned (OpenSpec.ofChange channelWorseSpec)

/-- ITS FALSE NEIGHBOUR: 'it returns false'. Refute it at one input. -/
def channelWorseWrong : ChangeSpec := { name := "channelWorse", fn := fun _ => fun
  | [d1, d2, d3] => { results := [.lit (.bool false)], args := [d1, d2, d3] }
  | _ => none }
def ChannelWorseWrongFalsely : Prop := channelWorseRow.holds Try.pinned (OpenSpec.ofChange channelWorseWrong)

/-- 'pagewatchlaw26.ChannelReaches': WHATEVER THE INPUT: true; the input reads as it did. -/
def channelReachesSpec : ChangeSpec := { name := "channelReaches", fn := fun _ => fun
  | [d1, d2] => { results := [.lit (.bool true)], args := [d1, d2] }
  | _ => none }
def channelReachesRow : OpenClaim := { program := "ytnmfcglhgaocoaa", sum := "30f6c13e9a3cde28c7f90c891bdd0ea68ee3ee19fcaa764127cca9473e252520", func := "pagewatch/pagewatchlaw26.ChannelReaches", spec := "channelReaches", unfollowed := true, recurses := true, apart := false }
def ChannelReachesSaid : Prop := channelReachesRow.holds Try.pinned (OpenSpec.ofChange channelReachesSpec)

/-- ITS FALSE NEIGHBOUR: 'it returns false'. Refute it at one input. -/
def channelReachesWrong : ChangeSpec := { name := "channelReaches", fn := fun _ => fun
  | [d1, d2] => { results := [.lit (.bool false)], args := [d1, d2] }
  | _ => none }
def ChannelReachesWrongFalsely : Prop := channelReachesRow.holds Try.pinned (OpenSpec.ofChange channelReachesWrong)

/-- 'pagewatchlaw26.ChannelFirst': WHATEVER THE INPUT: true; the input reads as it did. -/
def channelFirstSpec : ChangeSpec := { name := "channelFirst", fn := fun _ => fun
  | [d1, d2] => { results := [.lit (.bool true)], args := [d1, d2] }
  | _ => none }
def channelFirstRow : OpenClaim := { program := "ytnmfcglhgaocoaa", sum := "30f6c13e9a3cde28c7f90c891bdd0ea68ee3ee19fcaa764127cca9473e252520", func := "pagewatch/pagewatchlaw26.ChannelFirst", spec := "channelFirst", unfollowed := true, recurses := true, apart := false }
def ChannelFirstSaid : Prop := channelFirstRow.holds Try.pinned (OpenSpec.ofChange channelFirstSpec)

/-- ITS FALSE NEIGHBOUR: 'it returns false'. Refute it at one input. -/
def channelFirstWrong : ChangeSpec := { name := "channelFirst", fn := fun _ => fun
  | [d1, d2] => { results := [.lit (.bool false)], args := [d1, d2] }
  | _ => none }
def ChannelFirstWrongFalsely : Prop := channelFirstRow.holds Try.pinned (OpenSpec.ofChange channelFirstWrong)

/-- 'pagewatchlaw26.ChannelExact': WHATEVER THE INPUT: true; the input reads as it did. -/
def channelExactSpec : ChangeSpec := { name := "channelExact", fn := fun _ => fun
  | [d1, d2, d3, d4, d5] => { results := [.lit (.bool true)], args := [d1, d2, d3, d4, d5] }
  | _ => none }
def channelExactRow : OpenClaim := { program := "ytnmfcglhgaocoaa", sum := "30f6c13e9a3cde28c7f90c891bdd0ea68ee3ee19fcaa764127cca9473e252520", func := "pagewatch/pagewatchlaw26.ChannelExact", spec := "channelExact", unfollowed := true, recurses := true, apart := false }
def ChannelExactSaid : Prop := channelExactRow.holds Try.pinned (OpenSpec.ofChange channelExactSpec)

/-- ITS FALSE NEIGHBOUR: 'it returns false'. Refute it at one input. -/
def channelExactWrong : ChangeSpec := { name := "channelExact", fn := fun _ => fun
  | [d1, d2, d3, d4, d5] => { results := [.lit (.bool false)], args := [d1, d2, d3, d4, d5] }
  | _ => none }
def ChannelExactWrongFalsely : Prop := channelExactRow.holds Try.pinned (OpenSpec.ofChange channelExactWrong)

/-- 'pagewatchlaw26.ChannelReceipts': WHATEVER THE INPUT: true; the input reads as it did. -/
def channelReceiptsSpec : ChangeSpec := { name := "channelReceipts", fn := fun _ => fun
  | [d1, d2] => { results := [.lit (.bool true)], args := [d1, d2] }
  | _ => none }
def channelReceiptsRow : OpenClaim := { program := "ytnmfcglhgaocoaa", sum := "30f6c13e9a3cde28c7f90c891bdd0ea68ee3ee19fcaa764127cca9473e252520", func := "pagewatch/pagewatchlaw26.ChannelReceipts", spec := "channelReceipts", unfollowed := true, recurses := true, apart := false }
def ChannelReceiptsSaid : Prop := channelReceiptsRow.holds Try.pinned (OpenSpec.ofChange channelReceiptsSpec)

/-- ITS FALSE NEIGHBOUR: 'it returns false'. Refute it at one input. -/
def channelReceiptsWrong : ChangeSpec := { name := "channelReceipts", fn := fun _ => fun
  | [d1, d2] => { results := [.lit (.bool false)], args := [d1, d2] }
  | _ => none }
def ChannelReceiptsWrongFalsely : Prop := channelReceiptsRow.holds Try.pinned (OpenSpec.ofChange channelReceiptsWrong)

/- THE SECOND FORM. 'bulk': how many values and letters a reading holds, each counted each time it is reached (what is shared counts as often as it is met; a slice's spare places count too). A statement '..UptoSaid' is the law's where the arguments, and the package variables that the reading takes, are together of bulk at most 1048576: NARROWER than '..Said'. Prove '..Said' where nothing that the law and all that it calls make is longer than what came in: it says more and counts as full. Else prove '..UptoSaid'. A law counts once. -/
mutual
def uptoBulk {H : Type} : DataW H → Nat
  | .lit (.string bytes) => bytes.length + 1
  | .lit _ => 1
  | .nil => 1
  | .ptr d => uptoBulk d + 1
  | .slice elems spare => uptoBulkAll elems + uptoBulkAll spare + 1
  | .agg parts => uptoBulkAll parts + 1
  | .iface _ d => uptoBulk d + 1
  | .map entries => uptoBulkEntries entries + 1
  | .held _ => 1
def uptoBulkAll {H : Type} : List (DataW H) → Nat
  | [] => 0
  | d :: r => uptoBulk d + uptoBulkAll r
def uptoBulkEntries {H : Type} : List (Lit × DataW H) → Nat
  | [] => 0
  | x :: r => uptoBulkEntry x + uptoBulkEntries r
def uptoBulkEntry {H : Type} : Lit × DataW H → Nat
  | (.string bytes, d) => bytes.length + uptoBulk d + 1
  | (_, d) => uptoBulk d + 1
 end
def uptoSmall : (H : Type) → List (DataW H) → Bool := fun _ ds => decide (uptoBulkAll ds ≤ 1048576)
def OpenSpec.upto (s : _root_.Go.ChangeSpec) : _root_.Go.OpenSpec := { _root_.Go.OpenSpec.ofChange s with cond := some uptoSmall }

/-- 'pagewatchlaw26.ChannelWorse', WHERE WHAT IT READS IS OF BULK AT MOST 1048576: true; the input reads as it did. -/
def channelWorseUptoRow : OpenClaim := { program := "ytnmfcglhgaocoaa", sum := "30f6c13e9a3cde28c7f90c891bdd0ea68ee3ee19fcaa764127cca9473e252520", func := "pagewatch/pagewatchlaw26.ChannelWorse", spec := "channelWorse", unfollowed := true, recurses := true, apart := false, narrowed := true }
def ChannelWorseUptoSaid : Prop := channelWorseUptoRow.holds Try.pinned (OpenSpec.upto channelWorseSpec)

/-- 'pagewatchlaw26.ChannelReaches', WHERE WHAT IT READS IS OF BULK AT MOST 1048576: true; the input reads as it did. -/
def channelReachesUptoRow : OpenClaim := { program := "ytnmfcglhgaocoaa", sum := "30f6c13e9a3cde28c7f90c891bdd0ea68ee3ee19fcaa764127cca9473e252520", func := "pagewatch/pagewatchlaw26.ChannelReaches", spec := "channelReaches", unfollowed := true, recurses := true, apart := false, narrowed := true }
def ChannelReachesUptoSaid : Prop := channelReachesUptoRow.holds Try.pinned (OpenSpec.upto channelReachesSpec)

/-- 'pagewatchlaw26.ChannelFirst', WHERE WHAT IT READS IS OF BULK AT MOST 1048576: true; the input reads as it did. -/
def channelFirstUptoRow : OpenClaim := { program := "ytnmfcglhgaocoaa", sum := "30f6c13e9a3cde28c7f90c891bdd0ea68ee3ee19fcaa764127cca9473e252520", func := "pagewatch/pagewatchlaw26.ChannelFirst", spec := "channelFirst", unfollowed := true, recurses := true, apart := false, narrowed := true }
def ChannelFirstUptoSaid : Prop := channelFirstUptoRow.holds Try.pinned (OpenSpec.upto channelFirstSpec)

/-- 'pagewatchlaw26.ChannelExact', WHERE WHAT IT READS IS OF BULK AT MOST 1048576: true; the input reads as it did. -/
def channelExactUptoRow : OpenClaim := { program := "ytnmfcglhgaocoaa", sum := "30f6c13e9a3cde28c7f90c891bdd0ea68ee3ee19fcaa764127cca9473e252520", func := "pagewatch/pagewatchlaw26.ChannelExact", spec := "channelExact", unfollowed := true, recurses := true, apart := false, narrowed := true }
def ChannelExactUptoSaid : Prop := channelExactUptoRow.holds Try.pinned (OpenSpec.upto channelExactSpec)

/-- 'pagewatchlaw26.ChannelReceipts', WHERE WHAT IT READS IS OF BULK AT MOST 1048576: true; the input reads as it did. -/
def channelReceiptsUptoRow : OpenClaim := { program := "ytnmfcglhgaocoaa", sum := "30f6c13e9a3cde28c7f90c891bdd0ea68ee3ee19fcaa764127cca9473e252520", func := "pagewatch/pagewatchlaw26.ChannelReceipts", spec := "channelReceipts", unfollowed := true, recurses := true, apart := false, narrowed := true }
def ChannelReceiptsUptoSaid : Prop := channelReceiptsUptoRow.holds Try.pinned (OpenSpec.upto channelReceiptsSpec)

end Rows
end Go.Proofs.Ytnmfcglhgaocoaa
