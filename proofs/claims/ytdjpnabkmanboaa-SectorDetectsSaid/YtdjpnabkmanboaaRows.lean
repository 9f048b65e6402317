/-
  No cell of these rows narrows 'for every input' (looked for: loops, veiled, ifaces, maps, wideKeys, modest, calm, conditions, laid).
  DERIVED. THE GIVEN ROWS OF THIS SEAT. 7 by the template 'for every input the law returns true; each argument reads behind the call as it read before'; 0 by the template 'total and deterministic' (their statements: YtdjpnabkmanboaaTotals.lean).
  GIVEN WITH THE SEED: the statements are not yours to turn. If you find one false, say at which input.
  Laid BY PROGRAM, IN A SANDBOX (cutbox-rows.mjs): the forced cells as the released guide's own fill.sh prints them over the translation 09aafc37c73cbd42… (all of the seat's roots in one cut). By AI agents, Wed Nov 11 2026. No macro, syntax, notation, axiom, sorry.
-/
import Derived.Test.YtdjpnabkmanboaaChecked
import GoSem.Claim
import GoSem.ClaimJoined
import GoSem.ClaimMapViews
import Derived.JoinedTies
import Derived.KernelRfl
namespace Go.Proofs.Ytdjpnabkmanboaa
/- THE CELL 'sum', in the pinned program and in every row, IS THE sha256 OF THE DUMP (.gsa) THAT YtdjpnabkmanboaaProg.lean LOADS. Nothing in Lean hashes anything: it is a label: what it is worth is what the hold of that sum in a sandbox is worth. -/
noncomputable def Try.pinned : Pinned := { name := "ytdjpnabkmanboaa", sum := "09aafc37c73cbd428fae2b34e5bd4040e941d13c28630f084ef0be27641821d8", checked := Try.checked }
namespace Rows
def none {H : Type} : Left H := { results := [], args := [] }

/-- 'masterdisclaw07.SectorBuilds': WHATEVER THE INPUT: true; the input reads as it did. -/
def sectorBuildsSpec : ChangeSpec := { name := "sectorBuilds", fn := fun _ => fun
  | [d] => { results := [.lit (.bool true)], args := [d] }
  | _ => none }
def sectorBuildsRow : OpenClaim := { program := "ytdjpnabkmanboaa", sum := "09aafc37c73cbd428fae2b34e5bd4040e941d13c28630f084ef0be27641821d8", func := "masterdisc/masterdisclaw07.SectorBuilds", spec := "sectorBuilds", inPlace := ["internal/abi.NoEscape", "internal/bytealg.MakeNoZero"], unfollowed := true, recurses := true, apart := false }
def SectorBuildsSaid : Prop := sectorBuildsRow.holds Try.pinned (OpenSpec.ofChange sectorBuildsSpec)

/-- ITS FALSE NEIGHBOUR: 'it returns false'. Refute it at one input. -/
def sectorBuildsWrong : ChangeSpec := { name := "sectorBuilds", fn := fun _ => fun
  | [d] => { results := [.lit (.bool false)], args := [d] }
  | _ => none }
def SectorBuildsWrongFalsely : Prop := sectorBuildsRow.holds Try.pinned (OpenSpec.ofChange sectorBuildsWrong)

/-- 'masterdisclaw07.SectorAddresses': WHATEVER THE INPUT: true; the input reads as it did. -/
def sectorAddressesSpec : ChangeSpec := { name := "sectorAddresses", fn := fun _ => fun
  | [d1, d2] => { results := [.lit (.bool true)], args := [d1, d2] }
  | _ => none }
def sectorAddressesRow : OpenClaim := { program := "ytdjpnabkmanboaa", sum := "09aafc37c73cbd428fae2b34e5bd4040e941d13c28630f084ef0be27641821d8", func := "masterdisc/masterdisclaw07.SectorAddresses", spec := "sectorAddresses", inPlace := ["internal/abi.NoEscape", "internal/bytealg.MakeNoZero"], unfollowed := true, recurses := true, apart := false }
def SectorAddressesSaid : Prop := sectorAddressesRow.holds Try.pinned (OpenSpec.ofChange sectorAddressesSpec)

/-- ITS FALSE NEIGHBOUR: 'it returns false'. Refute it at one input. -/
def sectorAddressesWrong : ChangeSpec := { name := "sectorAddresses", fn := fun _ => fun
  | [d1, d2] => { results := [.lit (.bool false)], args := [d1, d2] }
  | _ => none }
def SectorAddressesWrongFalsely : Prop := sectorAddressesRow.holds Try.pinned (OpenSpec.ofChange sectorAddressesWrong)

/-- 'masterdisclaw07.SectorModes': WHATEVER THE INPUT: true; the input reads as it did. -/
def sectorModesSpec : ChangeSpec := { name := "sectorModes", fn := fun _ => fun
  | [d] => { results := [.lit (.bool true)], args := [d] }
  | _ => none }
def sectorModesRow : OpenClaim := { program := "ytdjpnabkmanboaa", sum := "09aafc37c73cbd428fae2b34e5bd4040e941d13c28630f084ef0be27641821d8", func := "masterdisc/masterdisclaw07.SectorModes", spec := "sectorModes", inPlace := ["internal/abi.NoEscape", "internal/bytealg.MakeNoZero"], unfollowed := true, recurses := true, apart := false }
def SectorModesSaid : Prop := sectorModesRow.holds Try.pinned (OpenSpec.ofChange sectorModesSpec)

/-- ITS FALSE NEIGHBOUR: 'it returns false'. Refute it at one input. -/
def sectorModesWrong : ChangeSpec := { name := "sectorModes", fn := fun _ => fun
  | [d] => { results := [.lit (.bool false)], args := [d] }
  | _ => none }
def SectorModesWrongFalsely : Prop := sectorModesRow.holds Try.pinned (OpenSpec.ofChange sectorModesWrong)

/-- 'masterdisclaw07.SectorParses': WHATEVER THE INPUT: true; the input reads as it did. -/
def sectorParsesSpec : ChangeSpec := { name := "sectorParses", fn := fun _ => fun
  | [d] => { results := [.lit (.bool true)], args := [d] }
  | _ => none }
def sectorParsesRow : OpenClaim := { program := "ytdjpnabkmanboaa", sum := "09aafc37c73cbd428fae2b34e5bd4040e941d13c28630f084ef0be27641821d8", func := "masterdisc/masterdisclaw07.SectorParses", spec := "sectorParses", inPlace := ["internal/abi.NoEscape", "internal/bytealg.MakeNoZero"], unfollowed := true, recurses := true, apart := false }
def SectorParsesSaid : Prop := sectorParsesRow.holds Try.pinned (OpenSpec.ofChange sectorParsesSpec)

/-- ITS FALSE NEIGHBOUR: 'it returns false'. Refute it at one input. -/
def sectorParsesWrong : ChangeSpec := { name := "sectorParses", fn := fun _ => fun
  | [d] => { results := [.lit (.bool false)], args := [d] }
  | _ => none }
def SectorParsesWrongFalsely : Prop := sectorParsesRow.holds Try.pinned (OpenSpec.ofChange sectorParsesWrong)

/-- 'masterdisclaw07.SectorReturns': WHATEVER THE INPUT: true; the input reads as it did. -/
def sectorReturnsSpec : ChangeSpec := { name := "sectorReturns", fn := fun _ => fun
  | [d1, d2] => { results := [.lit (.bool true)], args := [d1, d2] }
  | _ => none }
def sectorReturnsRow : OpenClaim := { program := "ytdjpnabkmanboaa", sum := "09aafc37c73cbd428fae2b34e5bd4040e941d13c28630f084ef0be27641821d8", func := "masterdisc/masterdisclaw07.SectorReturns", spec := "sectorReturns", inPlace := ["internal/abi.NoEscape", "internal/bytealg.MakeNoZero"], unfollowed := true, recurses := true, apart := false }
def SectorReturnsSaid : Prop := sectorReturnsRow.holds Try.pinned (OpenSpec.ofChange sectorReturnsSpec)

/-- ITS FALSE NEIGHBOUR: 'it returns false'. Refute it at one input. -/
def sectorReturnsWrong : ChangeSpec := { name := "sectorReturns", fn := fun _ => fun
  | [d1, d2] => { results := [.lit (.bool false)], args := [d1, d2] }
  | _ => none }
def SectorReturnsWrongFalsely : Prop := sectorReturnsRow.holds Try.pinned (OpenSpec.ofChange sectorReturnsWrong)

/-- 'masterdisclaw07.SectorCanonical': WHATEVER THE INPUT: true; the input reads as it did. -/
def sectorCanonicalSpec : ChangeSpec := { name := "sectorCanonical", fn := fun _ => fun
  | [d] => { results := [.lit (.bool true)], args := [d] }
  | _ => none }
def sectorCanonicalRow : OpenClaim := { program := "ytdjpnabkmanboaa", sum := "09aafc37c73cbd428fae2b34e5bd4040e941d13c28630f084ef0be27641821d8", func := "masterdisc/masterdisclaw07.SectorCanonical", spec := "sectorCanonical", inPlace := ["internal/abi.NoEscape", "internal/bytealg.MakeNoZero"], unfollowed := true, recurses := true, apart := false }
def SectorCanonicalSaid : Prop := sectorCanonicalRow.holds Try.pinned (OpenSpec.ofChange sectorCanonicalSpec)

/-- ITS FALSE NEIGHBOUR: 'it returns false'. Refute it at one input. -/
def sectorCanonicalWrong : ChangeSpec := { name := "sectorCanonical", fn := fun _ => fun
  | [d] => { results := [.lit (.bool false)], args := [d] }
  | _ => none }
def SectorCanonicalWrongFalsely : Prop := sectorCanonicalRow.holds Try.pinned (OpenSpec.ofChange sectorCanonicalWrong)

/-- 'masterdisclaw07.SectorDetects': WHATEVER THE INPUT: true; the input reads as it did. -/
def sectorDetectsSpec : ChangeSpec := { name := "sectorDetects", fn := fun _ => fun
  | [d1, d2, d3] => { results := [.lit (.bool true)], args := [d1, d2, d3] }
  | _ => none }
def sectorDetectsRow : OpenClaim := { program := "ytdjpnabkmanboaa", sum := "09aafc37c73cbd428fae2b34e5bd4040e941d13c28630f084ef0be27641821d8", func := "masterdisc/masterdisclaw07.SectorDetects", spec := "sectorDetects", inPlace := ["internal/abi.NoEscape", "internal/bytealg.MakeNoZero"], unfollowed := true, recurses := true, apart := false }
def SectorDetectsSaid : Prop := sectorDetectsRow.holds Try.pinned (OpenSpec.ofChange sectorDetectsSpec)

/-- ITS FALSE NEIGHBOUR: 'it returns false'. Refute it at one input. -/
def sectorDetectsWrong : ChangeSpec := { name := "sectorDetects", fn := fun _ => fun
  | [d1, d2, d3] => { results := [.lit (.bool false)], args := [d1, d2, d3] }
  | _ => none }
def SectorDetectsWrongFalsely : Prop := sectorDetectsRow.holds Try.pinned (OpenSpec.ofChange sectorDetectsWrong)

/- THE SECOND FORM. 'bulk': how many values and letters a reading holds, each counted each time it is reached (what is shared counts as often as it is met; a slice's spare places count too). A statement '..UptoSaid' is the law's where the arguments, and the package variables that the reading takes, are together of bulk at most 1048576: NARROWER than '..Said'. Prove '..Said' where nothing that the law and all that it calls make is longer than what came in: it says more and counts as full. Else prove '..UptoSaid'. A law counts once. -/
mutual
def uptoBulk {H : Type} : DataW H → Nat
  | .lit (.string bytes) => bytes.length + 1
  | .lit _ => 1
  | .nil => 1
  | .ptr d => uptoBulk d + 1
  | .slice elems spare => uptoBulkAll elems + uptoBulkAll spare + 1
  | .agg parts => uptoBulkAll parts + 1
  | .iface _ d => uptoBulk d + 1
  | .map entries => uptoBulkEntries entries + 1
  | .held _ => 1
def uptoBulkAll {H : Type} : List (DataW H) → Nat
  | [] => 0
  | d :: r => uptoBulk d + uptoBulkAll r
def uptoBulkEntries {H : Type} : List (Lit × DataW H) → Nat
  | [] => 0
  | x :: r => uptoBulkEntry x + uptoBulkEntries r
def uptoBulkEntry {H : Type} : Lit × DataW H → Nat
  | (.string bytes, d) => bytes.length + uptoBulk d + 1
  | (_, d) => uptoBulk d + 1
 end
def uptoSmall : (H : Type) → List (DataW H) → Bool := fun _ ds => decide (uptoBulkAll ds ≤ 1048576)
def OpenSpec.upto (s : _root_.Go.ChangeSpec) : _root_.Go.OpenSpec := { _root_.Go.OpenSpec.ofChange s with cond := some uptoSmall }

/-- 'masterdisclaw07.SectorBuilds', WHERE WHAT IT READS IS OF BULK AT MOST 1048576: true; the input reads as it did. -/
def sectorBuildsUptoRow : OpenClaim := { program := "ytdjpnabkmanboaa", sum := "09aafc37c73cbd428fae2b34e5bd4040e941d13c28630f084ef0be27641821d8", func := "masterdisc/masterdisclaw07.SectorBuilds", spec := "sectorBuilds", inPlace := ["internal/abi.NoEscape", "internal/bytealg.MakeNoZero"], unfollowed := true, recurses := true, apart := false, narrowed := true }
def SectorBuildsUptoSaid : Prop := sectorBuildsUptoRow.holds Try.pinned (OpenSpec.upto sectorBuildsSpec)

/-- 'masterdisclaw07.SectorAddresses', WHERE WHAT IT READS IS OF BULK AT MOST 1048576: true; the input reads as it did. -/
def sectorAddressesUptoRow : OpenClaim := { program := "ytdjpnabkmanboaa", sum := "09aafc37c73cbd428fae2b34e5bd4040e941d13c28630f084ef0be27641821d8", func := "masterdisc/masterdisclaw07.SectorAddresses", spec := "sectorAddresses", inPlace := ["internal/abi.NoEscape", "internal/bytealg.MakeNoZero"], unfollowed := true, recurses := true, apart := false, narrowed := true }
def SectorAddressesUptoSaid : Prop := sectorAddressesUptoRow.holds Try.pinned (OpenSpec.upto sectorAddressesSpec)

/-- 'masterdisclaw07.SectorModes', WHERE WHAT IT READS IS OF BULK AT MOST 1048576: true; the input reads as it did. -/
def sectorModesUptoRow : OpenClaim := { program := "ytdjpnabkmanboaa", sum := "09aafc37c73cbd428fae2b34e5bd4040e941d13c28630f084ef0be27641821d8", func := "masterdisc/masterdisclaw07.SectorModes", spec := "sectorModes", inPlace := ["internal/abi.NoEscape", "internal/bytealg.MakeNoZero"], unfollowed := true, recurses := true, apart := false, narrowed := true }
def SectorModesUptoSaid : Prop := sectorModesUptoRow.holds Try.pinned (OpenSpec.upto sectorModesSpec)

/-- 'masterdisclaw07.SectorParses', WHERE WHAT IT READS IS OF BULK AT MOST 1048576: true; the input reads as it did. -/
def sectorParsesUptoRow : OpenClaim := { program := "ytdjpnabkmanboaa", sum := "09aafc37c73cbd428fae2b34e5bd4040e941d13c28630f084ef0be27641821d8", func := "masterdisc/masterdisclaw07.SectorParses", spec := "sectorParses", inPlace := ["internal/abi.NoEscape", "internal/bytealg.MakeNoZero"], unfollowed := true, recurses := true, apart := false, narrowed := true }
def SectorParsesUptoSaid : Prop := sectorParsesUptoRow.holds Try.pinned (OpenSpec.upto sectorParsesSpec)

/-- 'masterdisclaw07.SectorReturns', WHERE WHAT IT READS IS OF BULK AT MOST 1048576: true; the input reads as it did. -/
def sectorReturnsUptoRow : OpenClaim := { program := "ytdjpnabkmanboaa", sum := "09aafc37c73cbd428fae2b34e5bd4040e941d13c28630f084ef0be27641821d8", func := "masterdisc/masterdisclaw07.SectorReturns", spec := "sectorReturns", inPlace := ["internal/abi.NoEscape", "internal/bytealg.MakeNoZero"], unfollowed := true, recurses := true, apart := false, narrowed := true }
def SectorReturnsUptoSaid : Prop := sectorReturnsUptoRow.holds Try.pinned (OpenSpec.upto sectorReturnsSpec)

/-- 'masterdisclaw07.SectorCanonical', WHERE WHAT IT READS IS OF BULK AT MOST 1048576: true; the input reads as it did. -/
def sectorCanonicalUptoRow : OpenClaim := { program := "ytdjpnabkmanboaa", sum := "09aafc37c73cbd428fae2b34e5bd4040e941d13c28630f084ef0be27641821d8", func := "masterdisc/masterdisclaw07.SectorCanonical", spec := "sectorCanonical", inPlace := ["internal/abi.NoEscape", "internal/bytealg.MakeNoZero"], unfollowed := true, recurses := true, apart := false, narrowed := true }
def SectorCanonicalUptoSaid : Prop := sectorCanonicalUptoRow.holds Try.pinned (OpenSpec.upto sectorCanonicalSpec)

/-- 'masterdisclaw07.SectorDetects', WHERE WHAT IT READS IS OF BULK AT MOST 1048576: true; the input reads as it did. -/
def sectorDetectsUptoRow : OpenClaim := { program := "ytdjpnabkmanboaa", sum := "09aafc37c73cbd428fae2b34e5bd4040e941d13c28630f084ef0be27641821d8", func := "masterdisc/masterdisclaw07.SectorDetects", spec := "sectorDetects", inPlace := ["internal/abi.NoEscape", "internal/bytealg.MakeNoZero"], unfollowed := true, recurses := true, apart := false, narrowed := true }
def SectorDetectsUptoSaid : Prop := sectorDetectsUptoRow.holds Try.pinned (OpenSpec.upto sectorDetectsSpec)

end Rows
end Go.Proofs.Ytdjpnabkmanboaa
