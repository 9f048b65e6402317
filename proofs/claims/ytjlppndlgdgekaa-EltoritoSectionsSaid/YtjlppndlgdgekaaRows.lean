/-
  No cell of these rows narrows 'for every input' (looked for: loops, veiled, ifaces, maps, wideKeys, modest, calm, conditions, laid).
  DERIVED. THE GIVEN ROWS OF THIS SEAT. 7 by the template 'for every input the law returns true; each argument reads behind the call as it read before'; 0 by the template 'total and deterministic' (their statements: YtjlppndlgdgekaaTotals.lean).
  GIVEN WITH THE SEED: the statements are not yours to turn. If you find one false, say at which input.
  Laid BY PROGRAM, IN A SANDBOX (cutbox-rows.mjs): the forced cells as the released guide's own fill.sh prints them over the translation 4b8d490b017cf3c1… (all of the seat's roots in one cut). By AI agents, Wed Nov 11 2026. No macro, syntax, notation, axiom, sorry.
-/
import Derived.Test.YtjlppndlgdgekaaChecked
import GoSem.Claim
import GoSem.ClaimJoined
import GoSem.ClaimMapViews
import Derived.JoinedTies
import Derived.KernelRfl
namespace Go.Proofs.Ytjlppndlgdgekaa
/- THE CELL 'sum', in the pinned program and in every row, IS THE sha256 OF THE DUMP (.gsa) THAT YtjlppndlgdgekaaProg.lean LOADS. Nothing in Lean hashes anything: it is a label: what it is worth is what the hold of that sum in a sandbox is worth. -/
noncomputable def Try.pinned : Pinned := { name := "ytjlppndlgdgekaa", sum := "4b8d490b017cf3c1848dbb3e4386cd5cdd323512fa2e81cae84402e05d1b6c63", checked := Try.checked }
namespace Rows
def none {H : Type} : Left H := { results := [], args := [] }

/-- 'masterdisclaw27.EltoritoEncodes': WHATEVER THE INPUT: true; the input reads as it did. -/
def eltoritoEncodesSpec : ChangeSpec := { name := "eltoritoEncodes", fn := fun _ => fun
  | [d] => { results := [.lit (.bool true)], args := [d] }
  | _ => none }
def eltoritoEncodesRow : OpenClaim := { program := "ytjlppndlgdgekaa", sum := "4b8d490b017cf3c1848dbb3e4386cd5cdd323512fa2e81cae84402e05d1b6c63", func := "masterdisc/masterdisclaw27.EltoritoEncodes", spec := "eltoritoEncodes", inPlace := ["internal/abi.NoEscape", "internal/bytealg.MakeNoZero"], unfollowed := true, recurses := true, apart := false }
def EltoritoEncodesSaid : Prop := eltoritoEncodesRow.holds Try.pinned (OpenSpec.ofChange eltoritoEncodesSpec)

/-- ITS FALSE NEIGHBOUR: 'it returns false'. Refute it at one input. -/
def eltoritoEncodesWrong : ChangeSpec := { name := "eltoritoEncodes", fn := fun _ => fun
  | [d] => { results := [.lit (.bool false)], args := [d] }
  | _ => none }
def EltoritoEncodesWrongFalsely : Prop := eltoritoEncodesRow.holds Try.pinned (OpenSpec.ofChange eltoritoEncodesWrong)

/-- 'masterdisclaw27.EltoritoDecodes': WHATEVER THE INPUT: true; the input reads as it did. -/
def eltoritoDecodesSpec : ChangeSpec := { name := "eltoritoDecodes", fn := fun _ => fun
  | [d] => { results := [.lit (.bool true)], args := [d] }
  | _ => none }
def eltoritoDecodesRow : OpenClaim := { program := "ytjlppndlgdgekaa", sum := "4b8d490b017cf3c1848dbb3e4386cd5cdd323512fa2e81cae84402e05d1b6c63", func := "masterdisc/masterdisclaw27.EltoritoDecodes", spec := "eltoritoDecodes", inPlace := ["internal/abi.NoEscape", "internal/bytealg.MakeNoZero"], unfollowed := true, recurses := true, apart := false }
def EltoritoDecodesSaid : Prop := eltoritoDecodesRow.holds Try.pinned (OpenSpec.ofChange eltoritoDecodesSpec)

/-- ITS FALSE NEIGHBOUR: 'it returns false'. Refute it at one input. -/
def eltoritoDecodesWrong : ChangeSpec := { name := "eltoritoDecodes", fn := fun _ => fun
  | [d] => { results := [.lit (.bool false)], args := [d] }
  | _ => none }
def EltoritoDecodesWrongFalsely : Prop := eltoritoDecodesRow.holds Try.pinned (OpenSpec.ofChange eltoritoDecodesWrong)

/-- 'masterdisclaw27.EltoritoReturns': WHATEVER THE INPUT: true; the input reads as it did. -/
def eltoritoReturnsSpec : ChangeSpec := { name := "eltoritoReturns", fn := fun _ => fun
  | [d] => { results := [.lit (.bool true)], args := [d] }
  | _ => none }
def eltoritoReturnsRow : OpenClaim := { program := "ytjlppndlgdgekaa", sum := "4b8d490b017cf3c1848dbb3e4386cd5cdd323512fa2e81cae84402e05d1b6c63", func := "masterdisc/masterdisclaw27.EltoritoReturns", spec := "eltoritoReturns", inPlace := ["internal/abi.NoEscape", "internal/bytealg.MakeNoZero"], unfollowed := true, recurses := true, apart := false }
def EltoritoReturnsSaid : Prop := eltoritoReturnsRow.holds Try.pinned (OpenSpec.ofChange eltoritoReturnsSpec)

/-- ITS FALSE NEIGHBOUR: 'it returns false'. Refute it at one input. -/
def eltoritoReturnsWrong : ChangeSpec := { name := "eltoritoReturns", fn := fun _ => fun
  | [d] => { results := [.lit (.bool false)], args := [d] }
  | _ => none }
def EltoritoReturnsWrongFalsely : Prop := eltoritoReturnsRow.holds Try.pinned (OpenSpec.ofChange eltoritoReturnsWrong)

/-- 'masterdisclaw27.EltoritoSections': WHATEVER THE INPUT: true; the input reads as it did. -/
def eltoritoSectionsSpec : ChangeSpec := { name := "eltoritoSections", fn := fun _ => fun
  | [d] => { results := [.lit (.bool true)], args := [d] }
  | _ => none }
def eltoritoSectionsRow : OpenClaim := { program := "ytjlppndlgdgekaa", sum := "4b8d490b017cf3c1848dbb3e4386cd5cdd323512fa2e81cae84402e05d1b6c63", func := "masterdisc/masterdisclaw27.EltoritoSections", spec := "eltoritoSections", inPlace := ["internal/abi.NoEscape", "internal/bytealg.MakeNoZero"], unfollowed := true, recurses := true, apart := false }
def EltoritoSectionsSaid : Prop := eltoritoSectionsRow.holds Try.pinned (OpenSpec.ofChange eltoritoSectionsSpec)

/-- ITS FALSE NEIGHBOUR: 'it returns false'. Refute it at one input. -/
def eltoritoSectionsWrong : ChangeSpec := { name := "eltoritoSections", fn := fun _ => fun
  | [d] => { results := [.lit (.bool false)], args := [d] }
  | _ => none }
def EltoritoSectionsWrongFalsely : Prop := eltoritoSectionsRow.holds Try.pinned (OpenSpec.ofChange eltoritoSectionsWrong)

/-- 'masterdisclaw27.EltoritoKey': WHATEVER THE INPUT: true; the input reads as it did. -/
def eltoritoKeySpec : ChangeSpec := { name := "eltoritoKey", fn := fun _ => fun
  | [d1, d2, d3] => { results := [.lit (.bool true)], args := [d1, d2, d3] }
  | _ => none }
def eltoritoKeyRow : OpenClaim := { program := "ytjlppndlgdgekaa", sum := "4b8d490b017cf3c1848dbb3e4386cd5cdd323512fa2e81cae84402e05d1b6c63", func := "masterdisc/masterdisclaw27.EltoritoKey", spec := "eltoritoKey", inPlace := ["internal/abi.NoEscape", "internal/bytealg.MakeNoZero"], unfollowed := true, recurses := true, apart := false }
def EltoritoKeySaid : Prop := eltoritoKeyRow.holds Try.pinned (OpenSpec.ofChange eltoritoKeySpec)

/-- ITS FALSE NEIGHBOUR: 'it returns false'. Refute it at one input. -/
def eltoritoKeyWrong : ChangeSpec := { name := "eltoritoKey", fn := fun _ => fun
  | [d1, d2, d3] => { results := [.lit (.bool false)], args := [d1, d2, d3] }
  | _ => none }
def EltoritoKeyWrongFalsely : Prop := eltoritoKeyRow.holds Try.pinned (OpenSpec.ofChange eltoritoKeyWrong)

/-- 'masterdisclaw27.EltoritoIgnored': WHATEVER THE INPUT: true; the input reads as it did. -/
def eltoritoIgnoredSpec : ChangeSpec := { name := "eltoritoIgnored", fn := fun _ => fun
  | [d1, d2, d3] => { results := [.lit (.bool true)], args := [d1, d2, d3] }
  | _ => none }
def eltoritoIgnoredRow : OpenClaim := { program := "ytjlppndlgdgekaa", sum := "4b8d490b017cf3c1848dbb3e4386cd5cdd323512fa2e81cae84402e05d1b6c63", func := "masterdisc/masterdisclaw27.EltoritoIgnored", spec := "eltoritoIgnored", inPlace := ["internal/abi.NoEscape", "internal/bytealg.MakeNoZero"], unfollowed := true, recurses := true, apart := false }
def EltoritoIgnoredSaid : Prop := eltoritoIgnoredRow.holds Try.pinned (OpenSpec.ofChange eltoritoIgnoredSpec)

/-- ITS FALSE NEIGHBOUR: 'it returns false'. Refute it at one input. -/
def eltoritoIgnoredWrong : ChangeSpec := { name := "eltoritoIgnored", fn := fun _ => fun
  | [d1, d2, d3] => { results := [.lit (.bool false)], args := [d1, d2, d3] }
  | _ => none }
def EltoritoIgnoredWrongFalsely : Prop := eltoritoIgnoredRow.holds Try.pinned (OpenSpec.ofChange eltoritoIgnoredWrong)

/-- 'masterdisclaw27.EltoritoCut': WHATEVER THE INPUT: true; the input reads as it did. -/
def eltoritoCutSpec : ChangeSpec := { name := "eltoritoCut", fn := fun _ => fun
  | [d1, d2] => { results := [.lit (.bool true)], args := [d1, d2] }
  | _ => none }
def eltoritoCutRow : OpenClaim := { program := "ytjlppndlgdgekaa", sum := "4b8d490b017cf3c1848dbb3e4386cd5cdd323512fa2e81cae84402e05d1b6c63", func := "masterdisc/masterdisclaw27.EltoritoCut", spec := "eltoritoCut", inPlace := ["internal/abi.NoEscape", "internal/bytealg.MakeNoZero"], unfollowed := true, recurses := true, apart := false }
def EltoritoCutSaid : Prop := eltoritoCutRow.holds Try.pinned (OpenSpec.ofChange eltoritoCutSpec)

/-- ITS FALSE NEIGHBOUR: 'it returns false'. Refute it at one input. -/
def eltoritoCutWrong : ChangeSpec := { name := "eltoritoCut", fn := fun _ => fun
  | [d1, d2] => { results := [.lit (.bool false)], args := [d1, d2] }
  | _ => none }
def EltoritoCutWrongFalsely : Prop := eltoritoCutRow.holds Try.pinned (OpenSpec.ofChange eltoritoCutWrong)

/- THE SECOND FORM. 'bulk': how many values and letters a reading holds, each counted each time it is reached (what is shared counts as often as it is met; a slice's spare places count too). A statement '..UptoSaid' is the law's where the arguments, and the package variables that the reading takes, are together of bulk at most 1048576: NARROWER than '..Said'. Prove '..Said' where nothing that the law and all that it calls make is longer than what came in: it says more and counts as full. Else prove '..UptoSaid'. A law counts once. -/
mutual
def uptoBulk {H : Type} : DataW H → Nat
  | .lit (.string bytes) => bytes.length + 1
  | .lit _ => 1
  | .nil => 1
  | .ptr d => uptoBulk d + 1
  | .slice elems spare => uptoBulkAll elems + uptoBulkAll spare + 1
  | .agg parts => uptoBulkAll parts + 1
  | .iface _ d => uptoBulk d + 1
  | .map entries => uptoBulkEntries entries + 1
  | .held _ => 1
def uptoBulkAll {H : Type} : List (DataW H) → Nat
  | [] => 0
  | d :: r => uptoBulk d + uptoBulkAll r
def uptoBulkEntries {H : Type} : List (Lit × DataW H) → Nat
  | [] => 0
  | x :: r => uptoBulkEntry x + uptoBulkEntries r
def uptoBulkEntry {H : Type} : Lit × DataW H → Nat
  | (.string bytes, d) => bytes.length + uptoBulk d + 1
  | (_, d) => uptoBulk d + 1
 end
def uptoSmall : (H : Type) → List (DataW H) → Bool := fun _ ds => decide (uptoBulkAll ds ≤ 1048576)
def OpenSpec.upto (s : _root_.Go.ChangeSpec) : _root_.Go.OpenSpec := { _root_.Go.OpenSpec.ofChange s with cond := some uptoSmall }

/-- 'masterdisclaw27.EltoritoEncodes', WHERE WHAT IT READS IS OF BULK AT MOST 1048576: true; the input reads as it did. -/
def eltoritoEncodesUptoRow : OpenClaim := { program := "ytjlppndlgdgekaa", sum := "4b8d490b017cf3c1848dbb3e4386cd5cdd323512fa2e81cae84402e05d1b6c63", func := "masterdisc/masterdisclaw27.EltoritoEncodes", spec := "eltoritoEncodes", inPlace := ["internal/abi.NoEscape", "internal/bytealg.MakeNoZero"], unfollowed := true, recurses := true, apart := false, narrowed := true }
def EltoritoEncodesUptoSaid : Prop := eltoritoEncodesUptoRow.holds Try.pinned (OpenSpec.upto eltoritoEncodesSpec)

/-- 'masterdisclaw27.EltoritoDecodes', WHERE WHAT IT READS IS OF BULK AT MOST 1048576: true; the input reads as it did. -/
def eltoritoDecodesUptoRow : OpenClaim := { program := "ytjlppndlgdgekaa", sum := "4b8d490b017cf3c1848dbb3e4386cd5cdd323512fa2e81cae84402e05d1b6c63", func := "masterdisc/masterdisclaw27.EltoritoDecodes", spec := "eltoritoDecodes", inPlace := ["internal/abi.NoEscape", "internal/bytealg.MakeNoZero"], unfollowed := true, recurses := true, apart := false, narrowed := true }
def EltoritoDecodesUptoSaid : Prop := eltoritoDecodesUptoRow.holds Try.pinned (OpenSpec.upto eltoritoDecodesSpec)

/-- 'masterdisclaw27.EltoritoReturns', WHERE WHAT IT READS IS OF BULK AT MOST 1048576: true; the input reads as it did. -/
def eltoritoReturnsUptoRow : OpenClaim := { program := "ytjlppndlgdgekaa", sum := "4b8d490b017cf3c1848dbb3e4386cd5cdd323512fa2e81cae84402e05d1b6c63", func := "masterdisc/masterdisclaw27.EltoritoReturns", spec := "eltoritoReturns", inPlace := ["internal/abi.NoEscape", "internal/bytealg.MakeNoZero"], unfollowed := true, recurses := true, apart := false, narrowed := true }
def EltoritoReturnsUptoSaid : Prop := eltoritoReturnsUptoRow.holds Try.pinned (OpenSpec.upto eltoritoReturnsSpec)

/-- 'masterdisclaw27.EltoritoSections', WHERE WHAT IT READS IS OF BULK AT MOST 1048576: true; the input reads as it did. -/
def eltoritoSectionsUptoRow : OpenClaim := { program := "ytjlppndlgdgekaa", sum := "4b8d490b017cf3c1848dbb3e4386cd5cdd323512fa2e81cae84402e05d1b6c63", func := "masterdisc/masterdisclaw27.EltoritoSections", spec := "eltoritoSections", inPlace := ["internal/abi.NoEscape", "internal/bytealg.MakeNoZero"], unfollowed := true, recurses := true, apart := false, narrowed := true }
def EltoritoSectionsUptoSaid : Prop := eltoritoSectionsUptoRow.holds Try.pinned (OpenSpec.upto eltoritoSectionsSpec)

/-- 'masterdisclaw27.EltoritoKey', WHERE WHAT IT READS IS OF BULK AT MOST 1048576: true; the input reads as it did. -/
def eltoritoKeyUptoRow : OpenClaim := { program := "ytjlppndlgdgekaa", sum := "4b8d490b017cf3c1848dbb3e4386cd5cdd323512fa2e81cae84402e05d1b6c63", func := "masterdisc/masterdisclaw27.EltoritoKey", spec := "eltoritoKey", inPlace := ["internal/abi.NoEscape", "internal/bytealg.MakeNoZero"], unfollowed := true, recurses := true, apart := false, narrowed := true }
def EltoritoKeyUptoSaid : Prop := eltoritoKeyUptoRow.holds Try.pinned (OpenSpec.upto eltoritoKeySpec)

/-- 'masterdisclaw27.EltoritoIgnored', WHERE WHAT IT READS IS OF BULK AT MOST 1048576: true; the input reads as it did. -/
def eltoritoIgnoredUptoRow : OpenClaim := { program := "ytjlppndlgdgekaa", sum := "4b8d490b017cf3c1848dbb3e4386cd5cdd323512fa2e81cae84402e05d1b6c63", func := "masterdisc/masterdisclaw27.EltoritoIgnored", spec := "eltoritoIgnored", inPlace := ["internal/abi.NoEscape", "internal/bytealg.MakeNoZero"], unfollowed := true, recurses := true, apart := false, narrowed := true }
def EltoritoIgnoredUptoSaid : Prop := eltoritoIgnoredUptoRow.holds Try.pinned (OpenSpec.upto eltoritoIgnoredSpec)

/-- 'masterdisclaw27.EltoritoCut', WHERE WHAT IT READS IS OF BULK AT MOST 1048576: true; the input reads as it did. -/
def eltoritoCutUptoRow : OpenClaim := { program := "ytjlppndlgdgekaa", sum := "4b8d490b017cf3c1848dbb3e4386cd5cdd323512fa2e81cae84402e05d1b6c63", func := "masterdisc/masterdisclaw27.EltoritoCut", spec := "eltoritoCut", inPlace := ["internal/abi.NoEscape", "internal/bytealg.MakeNoZero"], unfollowed := true, recurses := true, apart := false, narrowed := true }
def EltoritoCutUptoSaid : Prop := eltoritoCutUptoRow.holds Try.pinned (OpenSpec.upto eltoritoCutSpec)

end Rows
end Go.Proofs.Ytjlppndlgdgekaa
