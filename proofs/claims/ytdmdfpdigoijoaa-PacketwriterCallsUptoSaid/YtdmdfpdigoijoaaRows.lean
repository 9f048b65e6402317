/-
  No cell of these rows narrows 'for every input' (looked for: loops, veiled, ifaces, maps, wideKeys, modest, calm, conditions, laid).
  DERIVED. THE GIVEN ROWS OF THIS SEAT. 8 by the template 'for every input the law returns true; each argument reads behind the call as it read before'; 0 by the template 'total and deterministic' (their statements: YtdmdfpdigoijoaaTotals.lean).
  GIVEN WITH THE SEED: the statements are not yours to turn. If you find one false, say at which input.
  Laid BY PROGRAM, IN A SANDBOX (cutbox-rows.mjs): the forced cells as the released guide's own fill.sh prints them over the translation 3615e3e0228e74b1… (all of the seat's roots in one cut). By AI agents, Wed Nov 11 2026. No macro, syntax, notation, axiom, sorry.
-/
import Derived.Test.YtdmdfpdigoijoaaChecked
import GoSem.Claim
import GoSem.ClaimJoined
import GoSem.ClaimMapViews
import Derived.JoinedTies
import Derived.KernelRfl
namespace Go.Proofs.Ytdmdfpdigoijoaa
/- THE CELL 'sum', in the pinned program and in every row, IS THE sha256 OF THE DUMP (.gsa) THAT YtdmdfpdigoijoaaProg.lean LOADS. Nothing in Lean hashes anything: it is a label: what it is worth is what the hold of that sum in a sandbox is worth. -/
noncomputable def Try.pinned : Pinned := { name := "ytdmdfpdigoijoaa", sum := "3615e3e0228e74b1bd5d06d09bf4db86a05ec556b54513fcd7d3b7efc4f4e609", checked := Try.checked }
namespace Rows
def none {H : Type} : Left H := { results := [], args := [] }

/-- 'masterdisclaw52.PacketwriterRecords': WHATEVER THE INPUT: true; the input reads as it did. -/
def packetwriterRecordsSpec : ChangeSpec := { name := "packetwriterRecords", fn := fun _ => fun
  | [d1, d2, d3] => { results := [.lit (.bool true)], args := [d1, d2, d3] }
  | _ => none }
def packetwriterRecordsRow : OpenClaim := { program := "ytdmdfpdigoijoaa", sum := "3615e3e0228e74b1bd5d06d09bf4db86a05ec556b54513fcd7d3b7efc4f4e609", func := "masterdisc/masterdisclaw52.PacketwriterRecords", spec := "packetwriterRecords", inPlace := ["internal/abi.NoEscape", "internal/bytealg.MakeNoZero"], unfollowed := true, recurses := true, apart := false }
def PacketwriterRecordsSaid : Prop := packetwriterRecordsRow.holds Try.pinned (OpenSpec.ofChange packetwriterRecordsSpec)

/-- ITS FALSE NEIGHBOUR: 'it returns false'. Refute it at one input. -/
def packetwriterRecordsWrong : ChangeSpec := { name := "packetwriterRecords", fn := fun _ => fun
  | [d1, d2, d3] => { results := [.lit (.bool false)], args := [d1, d2, d3] }
  | _ => none }
def PacketwriterRecordsWrongFalsely : Prop := packetwriterRecordsRow.holds Try.pinned (OpenSpec.ofChange packetwriterRecordsWrong)

/-- 'masterdisclaw52.PacketwriterFinds': WHATEVER THE INPUT: true; the input reads as it did. -/
def packetwriterFindsSpec : ChangeSpec := { name := "packetwriterFinds", fn := fun _ => fun
  | [d1, d2, d3, d4] => { results := [.lit (.bool true)], args := [d1, d2, d3, d4] }
  | _ => none }
def packetwriterFindsRow : OpenClaim := { program := "ytdmdfpdigoijoaa", sum := "3615e3e0228e74b1bd5d06d09bf4db86a05ec556b54513fcd7d3b7efc4f4e609", func := "masterdisc/masterdisclaw52.PacketwriterFinds", spec := "packetwriterFinds", inPlace := ["internal/abi.NoEscape", "internal/bytealg.MakeNoZero"], unfollowed := true, recurses := true, apart := false }
def PacketwriterFindsSaid : Prop := packetwriterFindsRow.holds Try.pinned (OpenSpec.ofChange packetwriterFindsSpec)

/-- ITS FALSE NEIGHBOUR: 'it returns false'. Refute it at one input. -/
def packetwriterFindsWrong : ChangeSpec := { name := "packetwriterFinds", fn := fun _ => fun
  | [d1, d2, d3, d4] => { results := [.lit (.bool false)], args := [d1, d2, d3, d4] }
  | _ => none }
def PacketwriterFindsWrongFalsely : Prop := packetwriterFindsRow.holds Try.pinned (OpenSpec.ofChange packetwriterFindsWrong)

/-- 'masterdisclaw52.PacketwriterTears': WHATEVER THE INPUT: true; the input reads as it did. -/
def packetwriterTearsSpec : ChangeSpec := { name := "packetwriterTears", fn := fun _ => fun
  | [d1, d2, d3] => { results := [.lit (.bool true)], args := [d1, d2, d3] }
  | _ => none }
def packetwriterTearsRow : OpenClaim := { program := "ytdmdfpdigoijoaa", sum := "3615e3e0228e74b1bd5d06d09bf4db86a05ec556b54513fcd7d3b7efc4f4e609", func := "masterdisc/masterdisclaw52.PacketwriterTears", spec := "packetwriterTears", inPlace := ["internal/abi.NoEscape", "internal/bytealg.MakeNoZero"], unfollowed := true, recurses := true, apart := false }
def PacketwriterTearsSaid : Prop := packetwriterTearsRow.holds Try.pinned (OpenSpec.ofChange packetwriterTearsSpec)

/-- ITS FALSE NEIGHBOUR: 'it returns false'. Refute it at one input. -/
def packetwriterTearsWrong : ChangeSpec := { name := "packetwriterTears", fn := fun _ => fun
  | [d1, d2, d3] => { results := [.lit (.bool false)], args := [d1, d2, d3] }
  | _ => none }
def PacketwriterTearsWrongFalsely : Prop := packetwriterTearsRow.holds Try.pinned (OpenSpec.ofChange packetwriterTearsWrong)

/-- 'masterdisclaw52.PacketwriterKeeps': WHATEVER THE INPUT: true; the input reads as it did. -/
def packetwriterKeepsSpec : ChangeSpec := { name := "packetwriterKeeps", fn := fun _ => fun
  | [d1, d2, d3] => { results := [.lit (.bool true)], args := [d1, d2, d3] }
  | _ => none }
def packetwriterKeepsRow : OpenClaim := { program := "ytdmdfpdigoijoaa", sum := "3615e3e0228e74b1bd5d06d09bf4db86a05ec556b54513fcd7d3b7efc4f4e609", func := "masterdisc/masterdisclaw52.PacketwriterKeeps", spec := "packetwriterKeeps", inPlace := ["internal/abi.NoEscape", "internal/bytealg.MakeNoZero"], unfollowed := true, recurses := true, apart := false }
def PacketwriterKeepsSaid : Prop := packetwriterKeepsRow.holds Try.pinned (OpenSpec.ofChange packetwriterKeepsSpec)

/-- ITS FALSE NEIGHBOUR: 'it returns false'. Refute it at one input. -/
def packetwriterKeepsWrong : ChangeSpec := { name := "packetwriterKeeps", fn := fun _ => fun
  | [d1, d2, d3] => { results := [.lit (.bool false)], args := [d1, d2, d3] }
  | _ => none }
def PacketwriterKeepsWrongFalsely : Prop := packetwriterKeepsRow.holds Try.pinned (OpenSpec.ofChange packetwriterKeepsWrong)

/-- 'masterdisclaw52.PacketwriterJoins': WHATEVER THE INPUT: true; the input reads as it did. -/
def packetwriterJoinsSpec : ChangeSpec := { name := "packetwriterJoins", fn := fun _ => fun
  | [d1, d2, d3, d4] => { results := [.lit (.bool true)], args := [d1, d2, d3, d4] }
  | _ => none }
def packetwriterJoinsRow : OpenClaim := { program := "ytdmdfpdigoijoaa", sum := "3615e3e0228e74b1bd5d06d09bf4db86a05ec556b54513fcd7d3b7efc4f4e609", func := "masterdisc/masterdisclaw52.PacketwriterJoins", spec := "packetwriterJoins", inPlace := ["internal/abi.NoEscape", "internal/bytealg.MakeNoZero"], unfollowed := true, recurses := true, apart := false }
def PacketwriterJoinsSaid : Prop := packetwriterJoinsRow.holds Try.pinned (OpenSpec.ofChange packetwriterJoinsSpec)

/-- ITS FALSE NEIGHBOUR: 'it returns false'. Refute it at one input. -/
def packetwriterJoinsWrong : ChangeSpec := { name := "packetwriterJoins", fn := fun _ => fun
  | [d1, d2, d3, d4] => { results := [.lit (.bool false)], args := [d1, d2, d3, d4] }
  | _ => none }
def PacketwriterJoinsWrongFalsely : Prop := packetwriterJoinsRow.holds Try.pinned (OpenSpec.ofChange packetwriterJoinsWrong)

/-- 'masterdisclaw52.PacketwriterSessions': WHATEVER THE INPUT: true; the input reads as it did. -/
def packetwriterSessionsSpec : ChangeSpec := { name := "packetwriterSessions", fn := fun _ => fun
  | [d1, d2, d3, d4] => { results := [.lit (.bool true)], args := [d1, d2, d3, d4] }
  | _ => none }
def packetwriterSessionsRow : OpenClaim := { program := "ytdmdfpdigoijoaa", sum := "3615e3e0228e74b1bd5d06d09bf4db86a05ec556b54513fcd7d3b7efc4f4e609", func := "masterdisc/masterdisclaw52.PacketwriterSessions", spec := "packetwriterSessions", inPlace := ["internal/abi.NoEscape", "internal/bytealg.MakeNoZero"], unfollowed := true, recurses := true, apart := false }
def PacketwriterSessionsSaid : Prop := packetwriterSessionsRow.holds Try.pinned (OpenSpec.ofChange packetwriterSessionsSpec)

/-- ITS FALSE NEIGHBOUR: 'it returns false'. Refute it at one input. -/
def packetwriterSessionsWrong : ChangeSpec := { name := "packetwriterSessions", fn := fun _ => fun
  | [d1, d2, d3, d4] => { results := [.lit (.bool false)], args := [d1, d2, d3, d4] }
  | _ => none }
def PacketwriterSessionsWrongFalsely : Prop := packetwriterSessionsRow.holds Try.pinned (OpenSpec.ofChange packetwriterSessionsWrong)

/-- 'masterdisclaw52.PacketwriterReserved': WHATEVER THE INPUT: true; the input reads as it did. -/
def packetwriterReservedSpec : ChangeSpec := { name := "packetwriterReserved", fn := fun _ => fun
  | [d1, d2, d3, d4] => { results := [.lit (.bool true)], args := [d1, d2, d3, d4] }
  | _ => none }
def packetwriterReservedRow : OpenClaim := { program := "ytdmdfpdigoijoaa", sum := "3615e3e0228e74b1bd5d06d09bf4db86a05ec556b54513fcd7d3b7efc4f4e609", func := "masterdisc/masterdisclaw52.PacketwriterReserved", spec := "packetwriterReserved", inPlace := ["internal/abi.NoEscape", "internal/bytealg.MakeNoZero"], unfollowed := true, recurses := true, apart := false }
def PacketwriterReservedSaid : Prop := packetwriterReservedRow.holds Try.pinned (OpenSpec.ofChange packetwriterReservedSpec)

/-- ITS FALSE NEIGHBOUR: 'it returns false'. Refute it at one input. -/
def packetwriterReservedWrong : ChangeSpec := { name := "packetwriterReserved", fn := fun _ => fun
  | [d1, d2, d3, d4] => { results := [.lit (.bool false)], args := [d1, d2, d3, d4] }
  | _ => none }
def PacketwriterReservedWrongFalsely : Prop := packetwriterReservedRow.holds Try.pinned (OpenSpec.ofChange packetwriterReservedWrong)

/-- 'masterdisclaw52.PacketwriterCalls': WHATEVER THE INPUT: true; the input reads as it did. -/
def packetwriterCallsSpec : ChangeSpec := { name := "packetwriterCalls", fn := fun _ => fun
  | [d1, d2, d3, d4] => { results := [.lit (.bool true)], args := [d1, d2, d3, d4] }
  | _ => none }
def packetwriterCallsRow : OpenClaim := { program := "ytdmdfpdigoijoaa", sum := "3615e3e0228e74b1bd5d06d09bf4db86a05ec556b54513fcd7d3b7efc4f4e609", func := "masterdisc/masterdisclaw52.PacketwriterCalls", spec := "packetwriterCalls", inPlace := ["internal/abi.NoEscape", "internal/bytealg.MakeNoZero"], unfollowed := true, recurses := true, apart := false }
def PacketwriterCallsSaid : Prop := packetwriterCallsRow.holds Try.pinned (OpenSpec.ofChange packetwriterCallsSpec)

/-- ITS FALSE NEIGHBOUR: 'it returns false'. Refute it at one input. -/
def packetwriterCallsWrong : ChangeSpec := { name := "packetwriterCalls", fn := fun _ => fun
  | [d1, d2, d3, d4] => { results := [.lit (.bool false)], args := [d1, d2, d3, d4] }
  | _ => none }
def PacketwriterCallsWrongFalsely : Prop := packetwriterCallsRow.holds Try.pinned (OpenSpec.ofChange packetwriterCallsWrong)

/- THE SECOND FORM. 'bulk': how many values and letters a reading holds, each counted each time it is reached (what is shared counts as often as it is met; a slice's spare places count too). A statement '..UptoSaid' is the law's where the arguments, and the package variables that the reading takes, are together of bulk at most 1048576: NARROWER than '..Said'. Prove '..Said' where nothing that the law and all that it calls make is longer than what came in: it says more and counts as full. Else prove '..UptoSaid'. A law counts once. -/
mutual
def uptoBulk {H : Type} : DataW H → Nat
  | .lit (.string bytes) => bytes.length + 1
  | .lit _ => 1
  | .nil => 1
  | .ptr d => uptoBulk d + 1
  | .slice elems spare => uptoBulkAll elems + uptoBulkAll spare + 1
  | .agg parts => uptoBulkAll parts + 1
  | .iface _ d => uptoBulk d + 1
  | .map entries => uptoBulkEntries entries + 1
  | .held _ => 1
def uptoBulkAll {H : Type} : List (DataW H) → Nat
  | [] => 0
  | d :: r => uptoBulk d + uptoBulkAll r
def uptoBulkEntries {H : Type} : List (Lit × DataW H) → Nat
  | [] => 0
  | x :: r => uptoBulkEntry x + uptoBulkEntries r
def uptoBulkEntry {H : Type} : Lit × DataW H → Nat
  | (.string bytes, d) => bytes.length + uptoBulk d + 1
  | (_, d) => uptoBulk d + 1
 end
def uptoSmall : (H : Type) → List (DataW H) → Bool := fun _ ds => decide (uptoBulkAll ds ≤ 1048576)
def OpenSpec.upto (s : _root_.Go.ChangeSpec) : _root_.Go.OpenSpec := { _root_.Go.OpenSpec.ofChange s with cond := some uptoSmall }

/-- 'masterdisclaw52.PacketwriterRecords', WHERE WHAT IT READS IS OF BULK AT MOST 1048576: true; the input reads as it did. -/
def packetwriterRecordsUptoRow : OpenClaim := { program := "ytdmdfpdigoijoaa", sum := "3615e3e0228e74b1bd5d06d09bf4db86a05ec556b54513fcd7d3b7efc4f4e609", func := "masterdisc/masterdisclaw52.PacketwriterRecords", spec := "packetwriterRecords", inPlace := ["internal/abi.NoEscape", "internal/bytealg.MakeNoZero"], unfollowed := true, recurses := true, apart := false, narrowed := true }
def PacketwriterRecordsUptoSaid : Prop := packetwriterRecordsUptoRow.holds Try.pinned (OpenSpec.upto packetwriterRecordsSpec)

/-- 'masterdisclaw52.PacketwriterFinds', WHERE WHAT IT READS IS OF BULK AT MOST 1048576: true; the input reads as it did. -/
def packetwriterFindsUptoRow : OpenClaim := { program := "ytdmdfpdigoijoaa", sum := "3615e3e0228e74b1bd5d06d09bf4db86a05ec556b54513fcd7d3b7efc4f4e609", func := "masterdisc/masterdisclaw52.PacketwriterFinds", spec := "packetwriterFinds", inPlace := ["internal/abi.NoEscape", "internal/bytealg.MakeNoZero"], unfollowed := true, recurses := true, apart := false, narrowed := true }
def PacketwriterFindsUptoSaid : Prop := packetwriterFindsUptoRow.holds Try.pinned (OpenSpec.upto packetwriterFindsSpec)

/-- 'masterdisclaw52.PacketwriterTears', WHERE WHAT IT READS IS OF BULK AT MOST 1048576: true; the input reads as it did. -/
def packetwriterTearsUptoRow : OpenClaim := { program := "ytdmdfpdigoijoaa", sum := "3615e3e0228e74b1bd5d06d09bf4db86a05ec556b54513fcd7d3b7efc4f4e609", func := "masterdisc/masterdisclaw52.PacketwriterTears", spec := "packetwriterTears", inPlace := ["internal/abi.NoEscape", "internal/bytealg.MakeNoZero"], unfollowed := true, recurses := true, apart := false, narrowed := true }
def PacketwriterTearsUptoSaid : Prop := packetwriterTearsUptoRow.holds Try.pinned (OpenSpec.upto packetwriterTearsSpec)

/-- 'masterdisclaw52.PacketwriterKeeps', WHERE WHAT IT READS IS OF BULK AT MOST 1048576: true; the input reads as it did. -/
def packetwriterKeepsUptoRow : OpenClaim := { program := "ytdmdfpdigoijoaa", sum := "3615e3e0228e74b1bd5d06d09bf4db86a05ec556b54513fcd7d3b7efc4f4e609", func := "masterdisc/masterdisclaw52.PacketwriterKeeps", spec := "packetwriterKeeps", inPlace := ["internal/abi.NoEscape", "internal/bytealg.MakeNoZero"], unfollowed := true, recurses := true, apart := false, narrowed := true }
def PacketwriterKeepsUptoSaid : Prop := packetwriterKeepsUptoRow.holds Try.pinned (OpenSpec.upto packetwriterKeepsSpec)

/-- 'masterdisclaw52.PacketwriterJoins', WHERE WHAT IT READS IS OF BULK AT MOST 1048576: true; the input reads as it did. -/
def packetwriterJoinsUptoRow : OpenClaim := { program := "ytdmdfpdigoijoaa", sum := "3615e3e0228e74b1bd5d06d09bf4db86a05ec556b54513fcd7d3b7efc4f4e609", func := "masterdisc/masterdisclaw52.PacketwriterJoins", spec := "packetwriterJoins", inPlace := ["internal/abi.NoEscape", "internal/bytealg.MakeNoZero"], unfollowed := true, recurses := true, apart := false, narrowed := true }
def PacketwriterJoinsUptoSaid : Prop := packetwriterJoinsUptoRow.holds Try.pinned (OpenSpec.upto packetwriterJoinsSpec)

/-- 'masterdisclaw52.PacketwriterSessions', WHERE WHAT IT READS IS OF BULK AT MOST 1048576: true; the input reads as it did. -/
def packetwriterSessionsUptoRow : OpenClaim := { program := "ytdmdfpdigoijoaa", sum := "3615e3e0228e74b1bd5d06d09bf4db86a05ec556b54513fcd7d3b7efc4f4e609", func := "masterdisc/masterdisclaw52.PacketwriterSessions", spec := "packetwriterSessions", inPlace := ["internal/abi.NoEscape", "internal/bytealg.MakeNoZero"], unfollowed := true, recurses := true, apart := false, narrowed := true }
def PacketwriterSessionsUptoSaid : Prop := packetwriterSessionsUptoRow.holds Try.pinned (OpenSpec.upto packetwriterSessionsSpec)

/-- 'masterdisclaw52.PacketwriterReserved', WHERE WHAT IT READS IS OF BULK AT MOST 1048576: true; the input reads as it did. -/
def packetwriterReservedUptoRow : OpenClaim := { program := "ytdmdfpdigoijoaa", sum := "3615e3e0228e74b1bd5d06d09bf4db86a05ec556b54513fcd7d3b7efc4f4e609", func := "masterdisc/masterdisclaw52.PacketwriterReserved", spec := "packetwriterReserved", inPlace := ["internal/abi.NoEscape", "internal/bytealg.MakeNoZero"], unfollowed := true, recurses := true, apart := false, narrowed := true }
def PacketwriterReservedUptoSaid : Prop := packetwriterReservedUptoRow.holds Try.pinned (OpenSpec.upto packetwriterReservedSpec)

/-- 'masterdisclaw52.PacketwriterCalls', WHERE WHAT IT READS IS OF BULK AT MOST 1048576: true; the input reads as it did. -/
def packetwriterCallsUptoRow : OpenClaim := { program := "ytdmdfpdigoijoaa", sum := "3615e3e0228e74b1bd5d06d09bf4db86a05ec556b54513fcd7d3b7efc4f4e609", func := "masterdisc/masterdisclaw52.PacketwriterCalls", spec := "packetwriterCalls", inPlace := ["internal/abi.NoEscape", "internal/bytealg.MakeNoZero"], unfollowed := true, recurses := true, apart := false, narrowed := true }
def PacketwriterCallsUptoSaid : Prop := packetwriterCallsUptoRow.holds Try.pinned (OpenSpec.upto packetwriterCallsSpec)

end Rows
end Go.Proofs.Ytdmdfpdigoijoaa
