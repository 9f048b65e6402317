/-
  No cell of these rows narrows 'for every input' (looked for: loops, veiled, ifaces, maps, wideKeys, modest, calm, conditions, laid).
  DERIVED. THE GIVEN ROWS OF THIS SEAT. 6 by the template 'for every input the law returns true; each argument reads behind the call as it read before'; 0 by the template 'total and deterministic' (their statements: YtnomodbcpndocaaTotals.lean).
  GIVEN WITH THE SEED: the statements are not yours to turn. If you find one false, say at which input.
  Laid BY PROGRAM, IN A SANDBOX (cutbox-rows.mjs): the forced cells as the released guide's own fill.sh prints them over the translation bc910c983bd10ea7… (all of the seat's roots in one cut). By AI agents, Wed Nov 11 2026. No macro, syntax, notation, axiom, sorry.
-/
import Derived.Test.YtnomodbcpndocaaChecked
import GoSem.Claim
import GoSem.ClaimJoined
import GoSem.ClaimMapViews
import Derived.JoinedTies
import Derived.KernelRfl
namespace Go.Proofs.Ytnomodbcpndocaa
/- THE CELL 'sum', in the pinned program and in every row, IS THE sha256 OF THE DUMP (.gsa) THAT YtnomodbcpndocaaProg.lean LOADS. Nothing in Lean hashes anything: it is a label: what it is worth is what the hold of that sum in a sandbox is worth. -/
noncomputable def Try.pinned : Pinned := { name := "ytnomodbcpndocaa", sum := "bc910c983bd10ea7b6aaa7e8ddec3b875a09dcaba039ec82f0cefe8af1d6736d", checked := Try.checked }
namespace Rows
def none {H : Type} : Left H := { results := [], args := [] }

/-- 'masterdisclaw24.SuspBytes': WHATEVER THE INPUT: true; the input reads as it did. -/
def suspBytesSpec : ChangeSpec := { name := "suspBytes", fn := fun _ => fun
  | [d1, d2] => { results := [.lit (.bool true)], args := [d1, d2] }
  | _ => none }
def suspBytesRow : OpenClaim := { program := "ytnomodbcpndocaa", sum := "bc910c983bd10ea7b6aaa7e8ddec3b875a09dcaba039ec82f0cefe8af1d6736d", func := "masterdisc/masterdisclaw24.SuspBytes", spec := "suspBytes", inPlace := ["internal/abi.NoEscape", "internal/bytealg.MakeNoZero"], unfollowed := true, recurses := true, apart := false }
def SuspBytesSaid : Prop := suspBytesRow.holds Try.pinned (OpenSpec.ofChange suspBytesSpec)

/-- ITS FALSE NEIGHBOUR: 'it returns false'. Refute it at one input. -/
def suspBytesWrong : ChangeSpec := { name := "suspBytes", fn := fun _ => fun
  | [d1, d2] => { results := [.lit (.bool false)], args := [d1, d2] }
  | _ => none }
def SuspBytesWrongFalsely : Prop := suspBytesRow.holds Try.pinned (OpenSpec.ofChange suspBytesWrong)

/-- 'masterdisclaw24.SuspGroups': WHATEVER THE INPUT: true; the input reads as it did. -/
def suspGroupsSpec : ChangeSpec := { name := "suspGroups", fn := fun _ => fun
  | [d1, d2] => { results := [.lit (.bool true)], args := [d1, d2] }
  | _ => none }
def suspGroupsRow : OpenClaim := { program := "ytnomodbcpndocaa", sum := "bc910c983bd10ea7b6aaa7e8ddec3b875a09dcaba039ec82f0cefe8af1d6736d", func := "masterdisc/masterdisclaw24.SuspGroups", spec := "suspGroups", inPlace := ["internal/abi.NoEscape", "internal/bytealg.MakeNoZero"], unfollowed := true, recurses := true, apart := false }
def SuspGroupsSaid : Prop := suspGroupsRow.holds Try.pinned (OpenSpec.ofChange suspGroupsSpec)

/-- ITS FALSE NEIGHBOUR: 'it returns false'. Refute it at one input. -/
def suspGroupsWrong : ChangeSpec := { name := "suspGroups", fn := fun _ => fun
  | [d1, d2] => { results := [.lit (.bool false)], args := [d1, d2] }
  | _ => none }
def SuspGroupsWrongFalsely : Prop := suspGroupsRow.holds Try.pinned (OpenSpec.ofChange suspGroupsWrong)

/-- 'masterdisclaw24.SuspExtensions': WHATEVER THE INPUT: true; the input reads as it did. -/
def suspExtensionsSpec : ChangeSpec := { name := "suspExtensions", fn := fun _ => fun
  | [d1, d2, d3, d4, d5, d6] => { results := [.lit (.bool true)], args := [d1, d2, d3, d4, d5, d6] }
  | _ => none }
def suspExtensionsRow : OpenClaim := { program := "ytnomodbcpndocaa", sum := "bc910c983bd10ea7b6aaa7e8ddec3b875a09dcaba039ec82f0cefe8af1d6736d", func := "masterdisc/masterdisclaw24.SuspExtensions", spec := "suspExtensions", inPlace := ["internal/abi.NoEscape", "internal/bytealg.MakeNoZero"], unfollowed := true, recurses := true, apart := false }
def SuspExtensionsSaid : Prop := suspExtensionsRow.holds Try.pinned (OpenSpec.ofChange suspExtensionsSpec)

/-- ITS FALSE NEIGHBOUR: 'it returns false'. Refute it at one input. -/
def suspExtensionsWrong : ChangeSpec := { name := "suspExtensions", fn := fun _ => fun
  | [d1, d2, d3, d4, d5, d6] => { results := [.lit (.bool false)], args := [d1, d2, d3, d4, d5, d6] }
  | _ => none }
def SuspExtensionsWrongFalsely : Prop := suspExtensionsRow.holds Try.pinned (OpenSpec.ofChange suspExtensionsWrong)

/-- 'masterdisclaw24.SuspSplits': WHATEVER THE INPUT: true; the input reads as it did. -/
def suspSplitsSpec : ChangeSpec := { name := "suspSplits", fn := fun _ => fun
  | [d1, d2, d3, d4] => { results := [.lit (.bool true)], args := [d1, d2, d3, d4] }
  | _ => none }
def suspSplitsRow : OpenClaim := { program := "ytnomodbcpndocaa", sum := "bc910c983bd10ea7b6aaa7e8ddec3b875a09dcaba039ec82f0cefe8af1d6736d", func := "masterdisc/masterdisclaw24.SuspSplits", spec := "suspSplits", inPlace := ["internal/abi.NoEscape", "internal/bytealg.MakeNoZero"], unfollowed := true, recurses := true, apart := false }
def SuspSplitsSaid : Prop := suspSplitsRow.holds Try.pinned (OpenSpec.ofChange suspSplitsSpec)

/-- ITS FALSE NEIGHBOUR: 'it returns false'. Refute it at one input. -/
def suspSplitsWrong : ChangeSpec := { name := "suspSplits", fn := fun _ => fun
  | [d1, d2, d3, d4] => { results := [.lit (.bool false)], args := [d1, d2, d3, d4] }
  | _ => none }
def SuspSplitsWrongFalsely : Prop := suspSplitsRow.holds Try.pinned (OpenSpec.ofChange suspSplitsWrong)

/-- 'masterdisclaw24.SuspJoins': WHATEVER THE INPUT: true; the input reads as it did. -/
def suspJoinsSpec : ChangeSpec := { name := "suspJoins", fn := fun _ => fun
  | [d1, d2, d3] => { results := [.lit (.bool true)], args := [d1, d2, d3] }
  | _ => none }
def suspJoinsRow : OpenClaim := { program := "ytnomodbcpndocaa", sum := "bc910c983bd10ea7b6aaa7e8ddec3b875a09dcaba039ec82f0cefe8af1d6736d", func := "masterdisc/masterdisclaw24.SuspJoins", spec := "suspJoins", inPlace := ["internal/abi.NoEscape", "internal/bytealg.MakeNoZero"], unfollowed := true, recurses := true, apart := false }
def SuspJoinsSaid : Prop := suspJoinsRow.holds Try.pinned (OpenSpec.ofChange suspJoinsSpec)

/-- ITS FALSE NEIGHBOUR: 'it returns false'. Refute it at one input. -/
def suspJoinsWrong : ChangeSpec := { name := "suspJoins", fn := fun _ => fun
  | [d1, d2, d3] => { results := [.lit (.bool false)], args := [d1, d2, d3] }
  | _ => none }
def SuspJoinsWrongFalsely : Prop := suspJoinsRow.holds Try.pinned (OpenSpec.ofChange suspJoinsWrong)

/-- 'masterdisclaw24.SuspReturns': WHATEVER THE INPUT: true; the input reads as it did. -/
def suspReturnsSpec : ChangeSpec := { name := "suspReturns", fn := fun _ => fun
  | [d1, d2] => { results := [.lit (.bool true)], args := [d1, d2] }
  | _ => none }
def suspReturnsRow : OpenClaim := { program := "ytnomodbcpndocaa", sum := "bc910c983bd10ea7b6aaa7e8ddec3b875a09dcaba039ec82f0cefe8af1d6736d", func := "masterdisc/masterdisclaw24.SuspReturns", spec := "suspReturns", inPlace := ["internal/abi.NoEscape", "internal/bytealg.MakeNoZero"], unfollowed := true, recurses := true, apart := false }
def SuspReturnsSaid : Prop := suspReturnsRow.holds Try.pinned (OpenSpec.ofChange suspReturnsSpec)

/-- ITS FALSE NEIGHBOUR: 'it returns false'. Refute it at one input. -/
def suspReturnsWrong : ChangeSpec := { name := "suspReturns", fn := fun _ => fun
  | [d1, d2] => { results := [.lit (.bool false)], args := [d1, d2] }
  | _ => none }
def SuspReturnsWrongFalsely : Prop := suspReturnsRow.holds Try.pinned (OpenSpec.ofChange suspReturnsWrong)

/- THE SECOND FORM. 'bulk': how many values and letters a reading holds, each counted each time it is reached (what is shared counts as often as it is met; a slice's spare places count too). A statement '..UptoSaid' is the law's where the arguments, and the package variables that the reading takes, are together of bulk at most 1048576: NARROWER than '..Said'. Prove '..Said' where nothing that the law and all that it calls make is longer than what came in: it says more and counts as full. Else prove '..UptoSaid'. A law counts once. -/
mutual
def uptoBulk {H : Type} : DataW H → Nat
  | .lit (.string bytes) => bytes.length + 1
  | .lit _ => 1
  | .nil => 1
  | .ptr d => uptoBulk d + 1
  | .slice elems spare => uptoBulkAll elems + uptoBulkAll spare + 1
  | .agg parts => uptoBulkAll parts + 1
  | .iface _ d => uptoBulk d + 1
  | .map entries => uptoBulkEntries entries + 1
  | .held _ => 1
def uptoBulkAll {H : Type} : List (DataW H) → Nat
  | [] => 0
  | d :: r => uptoBulk d + uptoBulkAll r
def uptoBulkEntries {H : Type} : List (Lit × DataW H) → Nat
  | [] => 0
  | x :: r => uptoBulkEntry x + uptoBulkEntries r
def uptoBulkEntry {H : Type} : Lit × DataW H → Nat
  | (.string bytes, d) => bytes.length + uptoBulk d + 1
  | (_, d) => uptoBulk d + 1
 end
def uptoSmall : (H : Type) → List (DataW H) → Bool := fun _ ds => decide (uptoBulkAll ds ≤ 1048576)
def OpenSpec.upto (s : _root_.Go.ChangeSpec) : _root_.Go.OpenSpec := { _root_.Go.OpenSpec.ofChange s with cond := some uptoSmall }

/-- 'masterdisclaw24.SuspBytes', WHERE WHAT IT READS IS OF BULK AT MOST 1048576: true; the input reads as it did. -/
def suspBytesUptoRow : OpenClaim := { program := "ytnomodbcpndocaa", sum := "bc910c983bd10ea7b6aaa7e8ddec3b875a09dcaba039ec82f0cefe8af1d6736d", func := "masterdisc/masterdisclaw24.SuspBytes", spec := "suspBytes", inPlace := ["internal/abi.NoEscape", "internal/bytealg.MakeNoZero"], unfollowed := true, recurses := true, apart := false, narrowed := true }
def SuspBytesUptoSaid : Prop := suspBytesUptoRow.holds Try.pinned (OpenSpec.upto suspBytesSpec)

/-- 'masterdisclaw24.SuspGroups', WHERE WHAT IT READS IS OF BULK AT MOST 1048576: true; the input reads as it did. -/
def suspGroupsUptoRow : OpenClaim := { program := "ytnomodbcpndocaa", sum := "bc910c983bd10ea7b6aaa7e8ddec3b875a09dcaba039ec82f0cefe8af1d6736d", func := "masterdisc/masterdisclaw24.SuspGroups", spec := "suspGroups", inPlace := ["internal/abi.NoEscape", "internal/bytealg.MakeNoZero"], unfollowed := true, recurses := true, apart := false, narrowed := true }
def SuspGroupsUptoSaid : Prop := suspGroupsUptoRow.holds Try.pinned (OpenSpec.upto suspGroupsSpec)

/-- 'masterdisclaw24.SuspExtensions', WHERE WHAT IT READS IS OF BULK AT MOST 1048576: true; the input reads as it did. -/
def suspExtensionsUptoRow : OpenClaim := { program := "ytnomodbcpndocaa", sum := "bc910c983bd10ea7b6aaa7e8ddec3b875a09dcaba039ec82f0cefe8af1d6736d", func := "masterdisc/masterdisclaw24.SuspExtensions", spec := "suspExtensions", inPlace := ["internal/abi.NoEscape", "internal/bytealg.MakeNoZero"], unfollowed := true, recurses := true, apart := false, narrowed := true }
def SuspExtensionsUptoSaid : Prop := suspExtensionsUptoRow.holds Try.pinned (OpenSpec.upto suspExtensionsSpec)

/-- 'masterdisclaw24.SuspSplits', WHERE WHAT IT READS IS OF BULK AT MOST 1048576: true; the input reads as it did. -/
def suspSplitsUptoRow : OpenClaim := { program := "ytnomodbcpndocaa", sum := "bc910c983bd10ea7b6aaa7e8ddec3b875a09dcaba039ec82f0cefe8af1d6736d", func := "masterdisc/masterdisclaw24.SuspSplits", spec := "suspSplits", inPlace := ["internal/abi.NoEscape", "internal/bytealg.MakeNoZero"], unfollowed := true, recurses := true, apart := false, narrowed := true }
def SuspSplitsUptoSaid : Prop := suspSplitsUptoRow.holds Try.pinned (OpenSpec.upto suspSplitsSpec)

/-- 'masterdisclaw24.SuspJoins', WHERE WHAT IT READS IS OF BULK AT MOST 1048576: true; the input reads as it did. -/
def suspJoinsUptoRow : OpenClaim := { program := "ytnomodbcpndocaa", sum := "bc910c983bd10ea7b6aaa7e8ddec3b875a09dcaba039ec82f0cefe8af1d6736d", func := "masterdisc/masterdisclaw24.SuspJoins", spec := "suspJoins", inPlace := ["internal/abi.NoEscape", "internal/bytealg.MakeNoZero"], unfollowed := true, recurses := true, apart := false, narrowed := true }
def SuspJoinsUptoSaid : Prop := suspJoinsUptoRow.holds Try.pinned (OpenSpec.upto suspJoinsSpec)

/-- 'masterdisclaw24.SuspReturns', WHERE WHAT IT READS IS OF BULK AT MOST 1048576: true; the input reads as it did. -/
def suspReturnsUptoRow : OpenClaim := { program := "ytnomodbcpndocaa", sum := "bc910c983bd10ea7b6aaa7e8ddec3b875a09dcaba039ec82f0cefe8af1d6736d", func := "masterdisc/masterdisclaw24.SuspReturns", spec := "suspReturns", inPlace := ["internal/abi.NoEscape", "internal/bytealg.MakeNoZero"], unfollowed := true, recurses := true, apart := false, narrowed := true }
def SuspReturnsUptoSaid : Prop := suspReturnsUptoRow.holds Try.pinned (OpenSpec.upto suspReturnsSpec)

end Rows
end Go.Proofs.Ytnomodbcpndocaa
