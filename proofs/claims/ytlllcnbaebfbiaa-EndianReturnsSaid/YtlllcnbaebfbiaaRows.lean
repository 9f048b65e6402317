/-
  No cell of these rows narrows 'for every input' (looked for: loops, veiled, ifaces, maps, wideKeys, modest, calm, conditions, laid).
  DERIVED. THE GIVEN ROWS OF THIS SEAT. 7 by the template 'for every input the law returns true; each argument reads behind the call as it read before'; 0 by the template 'total and deterministic' (their statements: YtlllcnbaebfbiaaTotals.lean).
  GIVEN WITH THE SEED: the statements are not yours to turn. If you find one false, say at which input.
  Laid BY PROGRAM, IN A SANDBOX (cutbox-rows.mjs): the forced cells as the released guide's own fill.sh prints them over the translation f1fc9c26625e7381… (all of the seat's roots in one cut). By AI agents, Wed Nov 11 2026. No macro, syntax, notation, axiom, sorry.
-/
import Derived.Test.YtlllcnbaebfbiaaChecked
import GoSem.Claim
import GoSem.ClaimJoined
import GoSem.ClaimMapViews
import Derived.JoinedTies
import Derived.KernelRfl
namespace Go.Proofs.Ytlllcnbaebfbiaa
/- THE CELL 'sum', in the pinned program and in every row, IS THE sha256 OF THE DUMP (.gsa) THAT YtlllcnbaebfbiaaProg.lean LOADS. Nothing in Lean hashes anything: it is a label: what it is worth is what the hold of that sum in a sandbox is worth. -/
noncomputable def Try.pinned : Pinned := { name := "ytlllcnbaebfbiaa", sum := "f1fc9c26625e73815de0a9f7a1fd7ae9c6d901aff59c7a10d72889d8eb612735", checked := Try.checked }
namespace Rows
def none {H : Type} : Left H := { results := [], args := [] }

/-- 'masterdisclaw01.EndianWrites': WHATEVER THE INPUT: true; the input reads as it did. -/
def endianWritesSpec : ChangeSpec := { name := "endianWrites", fn := fun _ => fun
  | [d1, d2] => { results := [.lit (.bool true)], args := [d1, d2] }
  | _ => none }
def endianWritesRow : OpenClaim := { program := "ytlllcnbaebfbiaa", sum := "f1fc9c26625e73815de0a9f7a1fd7ae9c6d901aff59c7a10d72889d8eb612735", func := "masterdisc/masterdisclaw01.EndianWrites", spec := "endianWrites", unfollowed := true, recurses := true, apart := false }
def EndianWritesSaid : Prop := endianWritesRow.holds Try.pinned (OpenSpec.ofChange endianWritesSpec)

/-- ITS FALSE NEIGHBOUR: 'it returns false'. Refute it at one input. -/
def endianWritesWrong : ChangeSpec := { name := "endianWrites", fn := fun _ => fun
  | [d1, d2] => { results := [.lit (.bool false)], args := [d1, d2] }
  | _ => none }
def EndianWritesWrongFalsely : Prop := endianWritesRow.holds Try.pinned (OpenSpec.ofChange endianWritesWrong)

/-- 'masterdisclaw01.EndianMirrors': WHATEVER THE INPUT: true; the input reads as it did. -/
def endianMirrorsSpec : ChangeSpec := { name := "endianMirrors", fn := fun _ => fun
  | [d1, d2] => { results := [.lit (.bool true)], args := [d1, d2] }
  | _ => none }
def endianMirrorsRow : OpenClaim := { program := "ytlllcnbaebfbiaa", sum := "f1fc9c26625e73815de0a9f7a1fd7ae9c6d901aff59c7a10d72889d8eb612735", func := "masterdisc/masterdisclaw01.EndianMirrors", spec := "endianMirrors", unfollowed := true, recurses := true, apart := false }
def EndianMirrorsSaid : Prop := endianMirrorsRow.holds Try.pinned (OpenSpec.ofChange endianMirrorsSpec)

/-- ITS FALSE NEIGHBOUR: 'it returns false'. Refute it at one input. -/
def endianMirrorsWrong : ChangeSpec := { name := "endianMirrors", fn := fun _ => fun
  | [d1, d2] => { results := [.lit (.bool false)], args := [d1, d2] }
  | _ => none }
def EndianMirrorsWrongFalsely : Prop := endianMirrorsRow.holds Try.pinned (OpenSpec.ofChange endianMirrorsWrong)

/-- 'masterdisclaw01.EndianDecimals': WHATEVER THE INPUT: true; the input reads as it did. -/
def endianDecimalsSpec : ChangeSpec := { name := "endianDecimals", fn := fun _ => fun
  | [d1, d2] => { results := [.lit (.bool true)], args := [d1, d2] }
  | _ => none }
def endianDecimalsRow : OpenClaim := { program := "ytlllcnbaebfbiaa", sum := "f1fc9c26625e73815de0a9f7a1fd7ae9c6d901aff59c7a10d72889d8eb612735", func := "masterdisc/masterdisclaw01.EndianDecimals", spec := "endianDecimals", unfollowed := true, recurses := true, apart := false }
def EndianDecimalsSaid : Prop := endianDecimalsRow.holds Try.pinned (OpenSpec.ofChange endianDecimalsSpec)

/-- ITS FALSE NEIGHBOUR: 'it returns false'. Refute it at one input. -/
def endianDecimalsWrong : ChangeSpec := { name := "endianDecimals", fn := fun _ => fun
  | [d1, d2] => { results := [.lit (.bool false)], args := [d1, d2] }
  | _ => none }
def EndianDecimalsWrongFalsely : Prop := endianDecimalsRow.holds Try.pinned (OpenSpec.ofChange endianDecimalsWrong)

/-- 'masterdisclaw01.EndianPuts': WHATEVER THE INPUT: true; the input reads as it did. -/
def endianPutsSpec : ChangeSpec := { name := "endianPuts", fn := fun _ => fun
  | [d1, d2, d3] => { results := [.lit (.bool true)], args := [d1, d2, d3] }
  | _ => none }
def endianPutsRow : OpenClaim := { program := "ytlllcnbaebfbiaa", sum := "f1fc9c26625e73815de0a9f7a1fd7ae9c6d901aff59c7a10d72889d8eb612735", func := "masterdisc/masterdisclaw01.EndianPuts", spec := "endianPuts", unfollowed := true, recurses := true, apart := false }
def EndianPutsSaid : Prop := endianPutsRow.holds Try.pinned (OpenSpec.ofChange endianPutsSpec)

/-- ITS FALSE NEIGHBOUR: 'it returns false'. Refute it at one input. -/
def endianPutsWrong : ChangeSpec := { name := "endianPuts", fn := fun _ => fun
  | [d1, d2, d3] => { results := [.lit (.bool false)], args := [d1, d2, d3] }
  | _ => none }
def EndianPutsWrongFalsely : Prop := endianPutsRow.holds Try.pinned (OpenSpec.ofChange endianPutsWrong)

/-- 'masterdisclaw01.EndianOrders': WHATEVER THE INPUT: true; the input reads as it did. -/
def endianOrdersSpec : ChangeSpec := { name := "endianOrders", fn := fun _ => fun
  | [d1, d2] => { results := [.lit (.bool true)], args := [d1, d2] }
  | _ => none }
def endianOrdersRow : OpenClaim := { program := "ytlllcnbaebfbiaa", sum := "f1fc9c26625e73815de0a9f7a1fd7ae9c6d901aff59c7a10d72889d8eb612735", func := "masterdisc/masterdisclaw01.EndianOrders", spec := "endianOrders", unfollowed := true, recurses := true, apart := false }
def EndianOrdersSaid : Prop := endianOrdersRow.holds Try.pinned (OpenSpec.ofChange endianOrdersSpec)

/-- ITS FALSE NEIGHBOUR: 'it returns false'. Refute it at one input. -/
def endianOrdersWrong : ChangeSpec := { name := "endianOrders", fn := fun _ => fun
  | [d1, d2] => { results := [.lit (.bool false)], args := [d1, d2] }
  | _ => none }
def EndianOrdersWrongFalsely : Prop := endianOrdersRow.holds Try.pinned (OpenSpec.ofChange endianOrdersWrong)

/-- 'masterdisclaw01.EndianReads': WHATEVER THE INPUT: true; the input reads as it did. -/
def endianReadsSpec : ChangeSpec := { name := "endianReads", fn := fun _ => fun
  | [d1, d2, d3] => { results := [.lit (.bool true)], args := [d1, d2, d3] }
  | _ => none }
def endianReadsRow : OpenClaim := { program := "ytlllcnbaebfbiaa", sum := "f1fc9c26625e73815de0a9f7a1fd7ae9c6d901aff59c7a10d72889d8eb612735", func := "masterdisc/masterdisclaw01.EndianReads", spec := "endianReads", unfollowed := true, recurses := true, apart := false }
def EndianReadsSaid : Prop := endianReadsRow.holds Try.pinned (OpenSpec.ofChange endianReadsSpec)

/-- ITS FALSE NEIGHBOUR: 'it returns false'. Refute it at one input. -/
def endianReadsWrong : ChangeSpec := { name := "endianReads", fn := fun _ => fun
  | [d1, d2, d3] => { results := [.lit (.bool false)], args := [d1, d2, d3] }
  | _ => none }
def EndianReadsWrongFalsely : Prop := endianReadsRow.holds Try.pinned (OpenSpec.ofChange endianReadsWrong)

/-- 'masterdisclaw01.EndianReturns': WHATEVER THE INPUT: true; the input reads as it did. -/
def endianReturnsSpec : ChangeSpec := { name := "endianReturns", fn := fun _ => fun
  | [d1, d2, d3, d4] => { results := [.lit (.bool true)], args := [d1, d2, d3, d4] }
  | _ => none }
def endianReturnsRow : OpenClaim := { program := "ytlllcnbaebfbiaa", sum := "f1fc9c26625e73815de0a9f7a1fd7ae9c6d901aff59c7a10d72889d8eb612735", func := "masterdisc/masterdisclaw01.EndianReturns", spec := "endianReturns", unfollowed := true, recurses := true, apart := false }
def EndianReturnsSaid : Prop := endianReturnsRow.holds Try.pinned (OpenSpec.ofChange endianReturnsSpec)

/-- ITS FALSE NEIGHBOUR: 'it returns false'. Refute it at one input. -/
def endianReturnsWrong : ChangeSpec := { name := "endianReturns", fn := fun _ => fun
  | [d1, d2, d3, d4] => { results := [.lit (.bool false)], args := [d1, d2, d3, d4] }
  | _ => none }
def EndianReturnsWrongFalsely : Prop := endianReturnsRow.holds Try.pinned (OpenSpec.ofChange endianReturnsWrong)

/- THE SECOND FORM. 'bulk': how many values and letters a reading holds, each counted each time it is reached (what is shared counts as often as it is met; a slice's spare places count too). A statement '..UptoSaid' is the law's where the arguments, and the package variables that the reading takes, are together of bulk at most 1048576: NARROWER than '..Said'. Prove '..Said' where nothing that the law and all that it calls make is longer than what came in: it says more and counts as full. Else prove '..UptoSaid'. A law counts once. -/
mutual
def uptoBulk {H : Type} : DataW H → Nat
  | .lit (.string bytes) => bytes.length + 1
  | .lit _ => 1
  | .nil => 1
  | .ptr d => uptoBulk d + 1
  | .slice elems spare => uptoBulkAll elems + uptoBulkAll spare + 1
  | .agg parts => uptoBulkAll parts + 1
  | .iface _ d => uptoBulk d + 1
  | .map entries => uptoBulkEntries entries + 1
  | .held _ => 1
def uptoBulkAll {H : Type} : List (DataW H) → Nat
  | [] => 0
  | d :: r => uptoBulk d + uptoBulkAll r
def uptoBulkEntries {H : Type} : List (Lit × DataW H) → Nat
  | [] => 0
  | x :: r => uptoBulkEntry x + uptoBulkEntries r
def uptoBulkEntry {H : Type} : Lit × DataW H → Nat
  | (.string bytes, d) => bytes.length + uptoBulk d + 1
  | (_, d) => uptoBulk d + 1
 end
def uptoSmall : (H : Type) → List (DataW H) → Bool := fun _ ds => decide (uptoBulkAll ds ≤ 1048576)
def OpenSpec.upto (s : _root_.Go.ChangeSpec) : _root_.Go.OpenSpec := { _root_.Go.OpenSpec.ofChange s with cond := some uptoSmall }

/-- 'masterdisclaw01.EndianWrites', WHERE WHAT IT READS IS OF BULK AT MOST 1048576: true; the input reads as it did. -/
def endianWritesUptoRow : OpenClaim := { program := "ytlllcnbaebfbiaa", sum := "f1fc9c26625e73815de0a9f7a1fd7ae9c6d901aff59c7a10d72889d8eb612735", func := "masterdisc/masterdisclaw01.EndianWrites", spec := "endianWrites", unfollowed := true, recurses := true, apart := false, narrowed := true }
def EndianWritesUptoSaid : Prop := endianWritesUptoRow.holds Try.pinned (OpenSpec.upto endianWritesSpec)

/-- 'masterdisclaw01.EndianMirrors', WHERE WHAT IT READS IS OF BULK AT MOST 1048576: true; the input reads as it did. -/
def endianMirrorsUptoRow : OpenClaim := { program := "ytlllcnbaebfbiaa", sum := "f1fc9c26625e73815de0a9f7a1fd7ae9c6d901aff59c7a10d72889d8eb612735", func := "masterdisc/masterdisclaw01.EndianMirrors", spec := "endianMirrors", unfollowed := true, recurses := true, apart := false, narrowed := true }
def EndianMirrorsUptoSaid : Prop := endianMirrorsUptoRow.holds Try.pinned (OpenSpec.upto endianMirrorsSpec)

/-- 'masterdisclaw01.EndianDecimals', WHERE WHAT IT READS IS OF BULK AT MOST 1048576: true; the input reads as it did. -/
def endianDecimalsUptoRow : OpenClaim := { program := "ytlllcnbaebfbiaa", sum := "f1fc9c26625e73815de0a9f7a1fd7ae9c6d901aff59c7a10d72889d8eb612735", func := "masterdisc/masterdisclaw01.EndianDecimals", spec := "endianDecimals", unfollowed := true, recurses := true, apart := false, narrowed := true }
def EndianDecimalsUptoSaid : Prop := endianDecimalsUptoRow.holds Try.pinned (OpenSpec.upto endianDecimalsSpec)

/-- 'masterdisclaw01.EndianPuts', WHERE WHAT IT READS IS OF BULK AT MOST 1048576: true; the input reads as it did. -/
def endianPutsUptoRow : OpenClaim := { program := "ytlllcnbaebfbiaa", sum := "f1fc9c26625e73815de0a9f7a1fd7ae9c6d901aff59c7a10d72889d8eb612735", func := "masterdisc/masterdisclaw01.EndianPuts", spec := "endianPuts", unfollowed := true, recurses := true, apart := false, narrowed := true }
def EndianPutsUptoSaid : Prop := endianPutsUptoRow.holds Try.pinned (OpenSpec.upto endianPutsSpec)

/-- 'masterdisclaw01.EndianOrders', WHERE WHAT IT READS IS OF BULK AT MOST 1048576: true; the input reads as it did. -/
def endianOrdersUptoRow : OpenClaim := { program := "ytlllcnbaebfbiaa", sum := "f1fc9c26625e73815de0a9f7a1fd7ae9c6d901aff59c7a10d72889d8eb612735", func := "masterdisc/masterdisclaw01.EndianOrders", spec := "endianOrders", unfollowed := true, recurses := true, apart := false, narrowed := true }
def EndianOrdersUptoSaid : Prop := endianOrdersUptoRow.holds Try.pinned (OpenSpec.upto endianOrdersSpec)

/-- 'masterdisclaw01.EndianReads', WHERE WHAT IT READS IS OF BULK AT MOST 1048576: true; the input reads as it did. -/
def endianReadsUptoRow : OpenClaim := { program := "ytlllcnbaebfbiaa", sum := "f1fc9c26625e73815de0a9f7a1fd7ae9c6d901aff59c7a10d72889d8eb612735", func := "masterdisc/masterdisclaw01.EndianReads", spec := "endianReads", unfollowed := true, recurses := true, apart := false, narrowed := true }
def EndianReadsUptoSaid : Prop := endianReadsUptoRow.holds Try.pinned (OpenSpec.upto endianReadsSpec)

/-- 'masterdisclaw01.EndianReturns', WHERE WHAT IT READS IS OF BULK AT MOST 1048576: true; the input reads as it did. -/
def endianReturnsUptoRow : OpenClaim := { program := "ytlllcnbaebfbiaa", sum := "f1fc9c26625e73815de0a9f7a1fd7ae9c6d901aff59c7a10d72889d8eb612735", func := "masterdisc/masterdisclaw01.EndianReturns", spec := "endianReturns", unfollowed := true, recurses := true, apart := false, narrowed := true }
def EndianReturnsUptoSaid : Prop := endianReturnsUptoRow.holds Try.pinned (OpenSpec.upto endianReturnsSpec)

end Rows
end Go.Proofs.Ytlllcnbaebfbiaa
