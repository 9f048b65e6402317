/-
  No cell of these rows narrows 'for every input' (looked for: loops, veiled, ifaces, maps, wideKeys, modest, calm, conditions, laid).
  DERIVED. THE GIVEN ROWS OF THIS SEAT. 7 by the template 'for every input the law returns true; each argument reads behind the call as it read before'; 0 by the template 'total and deterministic' (their statements: YtcbkcdhhigobpaaTotals.lean).
  GIVEN WITH THE SEED: the statements are not yours to turn. If you find one false, say at which input.
  Laid BY PROGRAM, IN A SANDBOX (cutbox-rows.mjs): the forced cells as the released guide's own fill.sh prints them over the translation dcfeeb6ecfbbf6d6… (all of the seat's roots in one cut). By AI agents, Wed Nov 11 2026. No macro, syntax, notation, axiom, sorry.
-/
import Derived.Test.YtcbkcdhhigobpaaChecked
import GoSem.Claim
import GoSem.ClaimJoined
import GoSem.ClaimMapViews
import Derived.JoinedTies
import Derived.KernelRfl
namespace Go.Proofs.Ytcbkcdhhigobpaa
/- THE CELL 'sum', in the pinned program and in every row, IS THE sha256 OF THE DUMP (.gsa) THAT YtcbkcdhhigobpaaProg.lean LOADS. Nothing in Lean hashes anything: it is a label: what it is worth is what the hold of that sum in a sandbox is worth. -/
noncomputable def Try.pinned : Pinned := { name := "ytcbkcdhhigobpaa", sum := "dcfeeb6ecfbbf6d6113c8a82df04cd5607f5935ffe071aa503d41faad8087c23", checked := Try.checked }
namespace Rows
def none {H : Type} : Left H := { results := [], args := [] }

/-- 'masterdisclaw02.ChecksumValues': WHATEVER THE INPUT: true; the input reads as it did. -/
def checksumValuesSpec : ChangeSpec := { name := "checksumValues", fn := fun _ => fun
  | [d] => { results := [.lit (.bool true)], args := [d] }
  | _ => none }
def checksumValuesRow : OpenClaim := { program := "ytcbkcdhhigobpaa", sum := "dcfeeb6ecfbbf6d6113c8a82df04cd5607f5935ffe071aa503d41faad8087c23", func := "masterdisc/masterdisclaw02.ChecksumValues", spec := "checksumValues", unfollowed := true, recurses := true, apart := false }
def ChecksumValuesSaid : Prop := checksumValuesRow.holds Try.pinned (OpenSpec.ofChange checksumValuesSpec)

/-- ITS FALSE NEIGHBOUR: 'it returns false'. Refute it at one input. -/
def checksumValuesWrong : ChangeSpec := { name := "checksumValues", fn := fun _ => fun
  | [d] => { results := [.lit (.bool false)], args := [d] }
  | _ => none }
def ChecksumValuesWrongFalsely : Prop := checksumValuesRow.holds Try.pinned (OpenSpec.ofChange checksumValuesWrong)

/-- 'masterdisclaw02.ChecksumExtends': WHATEVER THE INPUT: true; the input reads as it did. -/
def checksumExtendsSpec : ChangeSpec := { name := "checksumExtends", fn := fun _ => fun
  | [d1, d2, d3, d4] => { results := [.lit (.bool true)], args := [d1, d2, d3, d4] }
  | _ => none }
def checksumExtendsRow : OpenClaim := { program := "ytcbkcdhhigobpaa", sum := "dcfeeb6ecfbbf6d6113c8a82df04cd5607f5935ffe071aa503d41faad8087c23", func := "masterdisc/masterdisclaw02.ChecksumExtends", spec := "checksumExtends", unfollowed := true, recurses := true, apart := false }
def ChecksumExtendsSaid : Prop := checksumExtendsRow.holds Try.pinned (OpenSpec.ofChange checksumExtendsSpec)

/-- ITS FALSE NEIGHBOUR: 'it returns false'. Refute it at one input. -/
def checksumExtendsWrong : ChangeSpec := { name := "checksumExtends", fn := fun _ => fun
  | [d1, d2, d3, d4] => { results := [.lit (.bool false)], args := [d1, d2, d3, d4] }
  | _ => none }
def ChecksumExtendsWrongFalsely : Prop := checksumExtendsRow.holds Try.pinned (OpenSpec.ofChange checksumExtendsWrong)

/-- 'masterdisclaw02.ChecksumLinear': WHATEVER THE INPUT: true; the input reads as it did. -/
def checksumLinearSpec : ChangeSpec := { name := "checksumLinear", fn := fun _ => fun
  | [d1, d2] => { results := [.lit (.bool true)], args := [d1, d2] }
  | _ => none }
def checksumLinearRow : OpenClaim := { program := "ytcbkcdhhigobpaa", sum := "dcfeeb6ecfbbf6d6113c8a82df04cd5607f5935ffe071aa503d41faad8087c23", func := "masterdisc/masterdisclaw02.ChecksumLinear", spec := "checksumLinear", unfollowed := true, recurses := true, apart := false }
def ChecksumLinearSaid : Prop := checksumLinearRow.holds Try.pinned (OpenSpec.ofChange checksumLinearSpec)

/-- ITS FALSE NEIGHBOUR: 'it returns false'. Refute it at one input. -/
def checksumLinearWrong : ChangeSpec := { name := "checksumLinear", fn := fun _ => fun
  | [d1, d2] => { results := [.lit (.bool false)], args := [d1, d2] }
  | _ => none }
def ChecksumLinearWrongFalsely : Prop := checksumLinearRow.holds Try.pinned (OpenSpec.ofChange checksumLinearWrong)

/-- 'masterdisclaw02.ChecksumBursts': WHATEVER THE INPUT: true; the input reads as it did. -/
def checksumBurstsSpec : ChangeSpec := { name := "checksumBursts", fn := fun _ => fun
  | [d1, d2, d3] => { results := [.lit (.bool true)], args := [d1, d2, d3] }
  | _ => none }
def checksumBurstsRow : OpenClaim := { program := "ytcbkcdhhigobpaa", sum := "dcfeeb6ecfbbf6d6113c8a82df04cd5607f5935ffe071aa503d41faad8087c23", func := "masterdisc/masterdisclaw02.ChecksumBursts", spec := "checksumBursts", unfollowed := true, recurses := true, apart := false }
def ChecksumBurstsSaid : Prop := checksumBurstsRow.holds Try.pinned (OpenSpec.ofChange checksumBurstsSpec)

/-- ITS FALSE NEIGHBOUR: 'it returns false'. Refute it at one input. -/
def checksumBurstsWrong : ChangeSpec := { name := "checksumBursts", fn := fun _ => fun
  | [d1, d2, d3] => { results := [.lit (.bool false)], args := [d1, d2, d3] }
  | _ => none }
def ChecksumBurstsWrongFalsely : Prop := checksumBurstsRow.holds Try.pinned (OpenSpec.ofChange checksumBurstsWrong)

/-- 'masterdisclaw02.ChecksumBytes': WHATEVER THE INPUT: true; the input reads as it did. -/
def checksumBytesSpec : ChangeSpec := { name := "checksumBytes", fn := fun _ => fun
  | [d1, d2] => { results := [.lit (.bool true)], args := [d1, d2] }
  | _ => none }
def checksumBytesRow : OpenClaim := { program := "ytcbkcdhhigobpaa", sum := "dcfeeb6ecfbbf6d6113c8a82df04cd5607f5935ffe071aa503d41faad8087c23", func := "masterdisc/masterdisclaw02.ChecksumBytes", spec := "checksumBytes", unfollowed := true, recurses := true, apart := false }
def ChecksumBytesSaid : Prop := checksumBytesRow.holds Try.pinned (OpenSpec.ofChange checksumBytesSpec)

/-- ITS FALSE NEIGHBOUR: 'it returns false'. Refute it at one input. -/
def checksumBytesWrong : ChangeSpec := { name := "checksumBytes", fn := fun _ => fun
  | [d1, d2] => { results := [.lit (.bool false)], args := [d1, d2] }
  | _ => none }
def ChecksumBytesWrongFalsely : Prop := checksumBytesRow.holds Try.pinned (OpenSpec.ofChange checksumBytesWrong)

/-- 'masterdisclaw02.ChecksumParity': WHATEVER THE INPUT: true; the input reads as it did. -/
def checksumParitySpec : ChangeSpec := { name := "checksumParity", fn := fun _ => fun
  | [d] => { results := [.lit (.bool true)], args := [d] }
  | _ => none }
def checksumParityRow : OpenClaim := { program := "ytcbkcdhhigobpaa", sum := "dcfeeb6ecfbbf6d6113c8a82df04cd5607f5935ffe071aa503d41faad8087c23", func := "masterdisc/masterdisclaw02.ChecksumParity", spec := "checksumParity", unfollowed := true, recurses := true, apart := false }
def ChecksumParitySaid : Prop := checksumParityRow.holds Try.pinned (OpenSpec.ofChange checksumParitySpec)

/-- ITS FALSE NEIGHBOUR: 'it returns false'. Refute it at one input. -/
def checksumParityWrong : ChangeSpec := { name := "checksumParity", fn := fun _ => fun
  | [d] => { results := [.lit (.bool false)], args := [d] }
  | _ => none }
def ChecksumParityWrongFalsely : Prop := checksumParityRow.holds Try.pinned (OpenSpec.ofChange checksumParityWrong)

/-- 'masterdisclaw02.ChecksumCloses': WHATEVER THE INPUT: true; the input reads as it did. -/
def checksumClosesSpec : ChangeSpec := { name := "checksumCloses", fn := fun _ => fun
  | [d1, d2] => { results := [.lit (.bool true)], args := [d1, d2] }
  | _ => none }
def checksumClosesRow : OpenClaim := { program := "ytcbkcdhhigobpaa", sum := "dcfeeb6ecfbbf6d6113c8a82df04cd5607f5935ffe071aa503d41faad8087c23", func := "masterdisc/masterdisclaw02.ChecksumCloses", spec := "checksumCloses", inPlace := ["internal/abi.NoEscape", "internal/bytealg.MakeNoZero"], unfollowed := true, recurses := true, apart := false }
def ChecksumClosesSaid : Prop := checksumClosesRow.holds Try.pinned (OpenSpec.ofChange checksumClosesSpec)

/-- ITS FALSE NEIGHBOUR: 'it returns false'. Refute it at one input. -/
def checksumClosesWrong : ChangeSpec := { name := "checksumCloses", fn := fun _ => fun
  | [d1, d2] => { results := [.lit (.bool false)], args := [d1, d2] }
  | _ => none }
def ChecksumClosesWrongFalsely : Prop := checksumClosesRow.holds Try.pinned (OpenSpec.ofChange checksumClosesWrong)

/- THE SECOND FORM. 'bulk': how many values and letters a reading holds, each counted each time it is reached (what is shared counts as often as it is met; a slice's spare places count too). A statement '..UptoSaid' is the law's where the arguments, and the package variables that the reading takes, are together of bulk at most 1048576: NARROWER than '..Said'. Prove '..Said' where nothing that the law and all that it calls make is longer than what came in: it says more and counts as full. Else prove '..UptoSaid'. A law counts once. -/
mutual
def uptoBulk {H : Type} : DataW H → Nat
  | .lit (.string bytes) => bytes.length + 1
  | .lit _ => 1
  | .nil => 1
  | .ptr d => uptoBulk d + 1
  | .slice elems spare => uptoBulkAll elems + uptoBulkAll spare + 1
  | .agg parts => uptoBulkAll parts + 1
  | .iface _ d => uptoBulk d + 1
  | .map entries => uptoBulkEntries entries + 1
  | .held _ => 1
def uptoBulkAll {H : Type} : List (DataW H) → Nat
  | [] => 0
  | d :: r => uptoBulk d + uptoBulkAll r
def uptoBulkEntries {H : Type} : List (Lit × DataW H) → Nat
  | [] => 0
  | x :: r => uptoBulkEntry x + uptoBulkEntries r
def uptoBulkEntry {H : Type} : Lit × DataW H → Nat
  | (.string bytes, d) => bytes.length + uptoBulk d + 1
  | (_, d) => uptoBulk d + 1
 end
def uptoSmall : (H : Type) → List (DataW H) → Bool := fun _ ds => decide (uptoBulkAll ds ≤ 1048576)
def OpenSpec.upto (s : _root_.Go.ChangeSpec) : _root_.Go.OpenSpec := { _root_.Go.OpenSpec.ofChange s with cond := some uptoSmall }

/-- 'masterdisclaw02.ChecksumValues', WHERE WHAT IT READS IS OF BULK AT MOST 1048576: true; the input reads as it did. -/
def checksumValuesUptoRow : OpenClaim := { program := "ytcbkcdhhigobpaa", sum := "dcfeeb6ecfbbf6d6113c8a82df04cd5607f5935ffe071aa503d41faad8087c23", func := "masterdisc/masterdisclaw02.ChecksumValues", spec := "checksumValues", unfollowed := true, recurses := true, apart := false, narrowed := true }
def ChecksumValuesUptoSaid : Prop := checksumValuesUptoRow.holds Try.pinned (OpenSpec.upto checksumValuesSpec)

/-- 'masterdisclaw02.ChecksumExtends', WHERE WHAT IT READS IS OF BULK AT MOST 1048576: true; the input reads as it did. -/
def checksumExtendsUptoRow : OpenClaim := { program := "ytcbkcdhhigobpaa", sum := "dcfeeb6ecfbbf6d6113c8a82df04cd5607f5935ffe071aa503d41faad8087c23", func := "masterdisc/masterdisclaw02.ChecksumExtends", spec := "checksumExtends", unfollowed := true, recurses := true, apart := false, narrowed := true }
def ChecksumExtendsUptoSaid : Prop := checksumExtendsUptoRow.holds Try.pinned (OpenSpec.upto checksumExtendsSpec)

/-- 'masterdisclaw02.ChecksumLinear', WHERE WHAT IT READS IS OF BULK AT MOST 1048576: true; the input reads as it did. -/
def checksumLinearUptoRow : OpenClaim := { program := "ytcbkcdhhigobpaa", sum := "dcfeeb6ecfbbf6d6113c8a82df04cd5607f5935ffe071aa503d41faad8087c23", func := "masterdisc/masterdisclaw02.ChecksumLinear", spec := "checksumLinear", unfollowed := true, recurses := true, apart := false, narrowed := true }
def ChecksumLinearUptoSaid : Prop := checksumLinearUptoRow.holds Try.pinned (OpenSpec.upto checksumLinearSpec)

/-- 'masterdisclaw02.ChecksumBursts', WHERE WHAT IT READS IS OF BULK AT MOST 1048576: true; the input reads as it did. -/
def checksumBurstsUptoRow : OpenClaim := { program := "ytcbkcdhhigobpaa", sum := "dcfeeb6ecfbbf6d6113c8a82df04cd5607f5935ffe071aa503d41faad8087c23", func := "masterdisc/masterdisclaw02.ChecksumBursts", spec := "checksumBursts", unfollowed := true, recurses := true, apart := false, narrowed := true }
def ChecksumBurstsUptoSaid : Prop := checksumBurstsUptoRow.holds Try.pinned (OpenSpec.upto checksumBurstsSpec)

/-- 'masterdisclaw02.ChecksumBytes', WHERE WHAT IT READS IS OF BULK AT MOST 1048576: true; the input reads as it did. -/
def checksumBytesUptoRow : OpenClaim := { program := "ytcbkcdhhigobpaa", sum := "dcfeeb6ecfbbf6d6113c8a82df04cd5607f5935ffe071aa503d41faad8087c23", func := "masterdisc/masterdisclaw02.ChecksumBytes", spec := "checksumBytes", unfollowed := true, recurses := true, apart := false, narrowed := true }
def ChecksumBytesUptoSaid : Prop := checksumBytesUptoRow.holds Try.pinned (OpenSpec.upto checksumBytesSpec)

/-- 'masterdisclaw02.ChecksumParity', WHERE WHAT IT READS IS OF BULK AT MOST 1048576: true; the input reads as it did. -/
def checksumParityUptoRow : OpenClaim := { program := "ytcbkcdhhigobpaa", sum := "dcfeeb6ecfbbf6d6113c8a82df04cd5607f5935ffe071aa503d41faad8087c23", func := "masterdisc/masterdisclaw02.ChecksumParity", spec := "checksumParity", unfollowed := true, recurses := true, apart := false, narrowed := true }
def ChecksumParityUptoSaid : Prop := checksumParityUptoRow.holds Try.pinned (OpenSpec.upto checksumParitySpec)

/-- 'masterdisclaw02.ChecksumCloses', WHERE WHAT IT READS IS OF BULK AT MOST 1048576: true; the input reads as it did. -/
def checksumClosesUptoRow : OpenClaim := { program := "ytcbkcdhhigobpaa", sum := "dcfeeb6ecfbbf6d6113c8a82df04cd5607f5935ffe071aa503d41faad8087c23", func := "masterdisc/masterdisclaw02.ChecksumCloses", spec := "checksumCloses", inPlace := ["internal/abi.NoEscape", "internal/bytealg.MakeNoZero"], unfollowed := true, recurses := true, apart := false, narrowed := true }
def ChecksumClosesUptoSaid : Prop := checksumClosesUptoRow.holds Try.pinned (OpenSpec.upto checksumClosesSpec)

end Rows
end Go.Proofs.Ytcbkcdhhigobpaa
